import Derived.ProofKit
import Derived.OpenShut
import Derived.ShutString
import Derived.ChangeOld
import Derived.Deep.Matrix
import Derived.Deep.SlicePairs
import Derived.Test.YtgblliofomgggaaGreatM01
import Derived.Test.YtgblliofomgggaaGreatM05
import Derived.Test.YtgblliofomgggaaGreatM24
import Derived.Test.YtgblliofomgggaaGreatM21
import Derived.Test.YtgblliofomgggaaGreatM22
namespace Go.Proofs.YtgblliofomgggaaGreat
set_option maxRecDepth 100000
set_option maxHeartbeats 8000000
open Go.RowKit a7 bA
open Go.IntKind renaming i64 -> af,u64 -> ak
open Go.Value renaming int -> I,slice -> Y,pointer -> aL,agg -> aE
theorem xx(wb:Nat):(Program.built Tryz.prog 108 [(0,.pointer (aj wb))]).map Array.toList=some [.pointer (aj wb),aa]:=by kernel_rfl
theorem yg(wb:Nat)(w:World):(Instr.build 108 #[(0,.pointer (aj wb))]).run Tryz.prog w=.ok (aE #[aj wb,aa]) w:=by
 obtain⟨cs,h1,h2⟩:=Option.map_eq_some_iff.1 (xx wb);rw[run_build w 108 _ cs h1];rw[show cs=#[.pointer (aj wb),aa] from Array.toList_inj.1 h2]
structure hB where
 e:Int
 i1:Int
 i2:Int
 i3:Int
 st:Int
 A:Option Addr
 n:Nat
 c:Nat
 lo:Int
 bu:Int
 up:Bool
def hB.cells(x:hB):List Value:=[I af x.e,I af x.i1,I ak x.i2,I ak x.i3,I af x.st,Y x.A x.n x.c,I af x.lo,I af x.bu,.bool x.up]
def kw:dD hB:=⟨9,λ_ _ u x=>u=x.cells,λh=>by rw[h];rfl,λh v hv=>by
 rw[h]at hv;simp only[hB.cells,List.mem_cons,List.not_mem_nil,or_false]at hv;rcases hv with rfl | rfl | rfl | rfl | rfl | rfl | rfl | rfl | rfl<;>rfl,λh _=>h⟩
structure xE where
 kd:Int
 a:Int
 b:Int
 n:Int
 A:Option Addr
 m:Nat
 c:Nat
def xE.cells(x:xE):List Value:=[I af x.kd,I af x.a,I af x.b,I af x.n,Y x.A x.m x.c,aa]
theorem Tryz.Br:(Tryz.prog.info? 66).map (λi=>(i.zero.map (λz=>z.cells.size),i.size,i.bytes))=some (some 9,9,88):=by kernel_rfl
structure zS (wI:World) (ob:Nat) (zz:aM) (no:Nat) (oc:Nat->xE) (K:Nat->Nat) (cp:Nat->Nat->Array Value) (Good:Nat->hB->Prop) (Inv:Nat->Nat->Nat->World->(Nat->Prop)->Prop):Prop where
 start:∀ (w:World) (U O:Nat->Prop) (pb fb:Nat),Below wI wI w->(∀b,U b->wI.heap.size<=b)->(∀b,O b->b=ob\/wI.heap.size<=b)->(∀b,O b->b<w.heap.size)->dp w zz (λ_=>aC.new) (List.replicate zz.homes.length 0) (List.replicate zz.homes.length aa).toArray U pb []->w.cell? (aj fb)=some (.func (.methodOf 106 "Crash") #[] #[])->¬U fb->¬O fb->(∀b,U b->¬O b)->Inv pb fb 0 w O
 off:∀ (pb fb i:Nat) (w w':World) (O O':Nat->Prop),Inv pb fb i w O->aw O w w'->(∀b,O' b->O b\/w.heap.size<=b)->(∀b,O' b->b<w'.heap.size)->Inv pb fb i w' O'
 step:∀ (pb fb i:Nat) (w:World) (O:Nat->Prop),i<no->Inv pb fb i w O->Calls Tryz.prog (K i) (#[.pointer (aj pb),aE (oc i).cells.toArray]++cp fb i) w λe w'=>∃x:hB,e=.returned (aE x.cells.toArray)/\Good i x/\Inv pb fb (i+1) w' O/\aw (λb=>¬O b/\wI.heap.size<=b) w w'
 real:∀i,i<no->Real (K i)
 does:∀ (fb:Nat) (f:Int->Option Value),f 8=some (k9 81)->f 9=some (k9 82)->f 13=some (k9 83)->f 10=some (k9 85)->f 11=some (k9 86)->f 16=some (k9 89)->f 17=some (k9 90)->f 6=some (.func (.func 146) #[] #[aj fb])->∀i,i<no->f (oc i).kd=some (.func (.func (K i)) #[] (cp fb i))
 wf:∀i,i<no->(Lit.int .i64 (oc i).kd).wf=true
theorem o8{w w':World}{O:Nat->Prop}{v:Value}{l:List hB}{base:Nat}(h:aD kw 66 w base (λ_=>False) v l)(t:aw O w w')(hv:∀b,v.ownBlock=some b->¬O b):aD kw 66 w' base (λ_=>False) v l:=by
 obtain⟨us,k1,k2,k3⟩:=h;exact⟨us,cS k1 (⟨t.os,t.tape,t.output,t.size,t.aI,λ_ _ e=>e⟩:Goes O w O w') hv,k2,k3⟩
theorem CA(zz:aM)(no:Nat)(oc:Nat->xE)(K:Nat->Nat)(cp:Nat->Nat->Array Value)(Good:Nat->hB->Prop)(Inv:Nat->Nat->Nat->World->(Nat->Prop)->Prop)(w:World)(ob:Nat)(P:zS w ob zz no oc K cp Good Inv)(aA:no<=20)(AP AH:Option Addr)(cP cH cO:Nat)(ae:∀i,i<zz.n->(zz.at_ i).ok)(ca:zz.n<=6)(ht:Tr.c6 w w AP zz.n zz.p)(hh:SliceAt b5 w (λ_=>False) AH zz.homes)(hr:200<=zz.room)
 (aK:∀i,i<no->∀j v,(oc i).cells[j]? =some v->w.cell? ⟨ob,i*6+j,none⟩=some v) (bw:ob<w.heap.size):
 Calls Tryz.prog 17 #[Y AP zz.n cP,Y AH zz.homes.length cH,ag zz.room,Y (aj ob) no cO] w λe w'=>∃ (A:Option Addr) (c:Nat) (rs:List hB),e=.returned (.tuple #[Y A no c,ag 0])/\rs.length=no/\(∀i (h:i<rs.length),Good i rs[i])/\SliceAt kw w' (λ_=>False) A rs/\Below w w w':=by
 have nw:=uw zz AP AH cP cH w ae ca ht hh hr;obtain⟨i0,z0,bM,bL,bB,bJ,bR⟩:=aS Tryz.Br;have HP:=fm P aK bw;have a3:(no:Int)<500:=by omega
 have a6:¬ ((500:Int)<(no:Int)):=by omega
 clear ae ht hh hr aK P bw;go_enter Tryz.func17,Tryz.ntmps17;go_wp2_with fail;go_fit nw;clear nw;rintro e w1 ⟨a,rfl,W1,b1,ua⟩;obtain⟨pb,bl⟩:=am w1.heap.size;obtain⟨w2,a8⟩:=am (w1.alloc (.cells #[aj a.wb,aa] 108));have bP:ai w2 pb 108 #[aj a.wb,aa]:=by rw[a8,bl];exact ai.made _ _ _
 have b2:=aV a8;have s2:w2.heap.size=w1.heap.size+1:=by rw[a8];simp
 have bF:=λw=>yg a.wb w;have a5:=λw=>jN 1 w;have aE:∀b,a.hM zz.n b->b<w1.heap.size:=λb a7=>by
  rcases a7 with a7 | a7 | a7 | a7
  ·exact a7.elim (W1.lt b) (W1.jn b)
  ·obtain⟨off,hA⟩:=a7;obtain⟨⟨_,_,_,b',aq,ak,J,_⟩,_⟩:=W1.par;rw[hA]at ak;injection ak with ak;injection ak with ak;omega
  ·obtain⟨off,hA⟩:=a7;have hk:0<zz.homes.length:=(W1.ok 0 (by have:=W1.n6;omega)).h1;obtain⟨b',aq,u,ak,J,_⟩:=W1.homes.at_ hk (by decide);rw[hA]at ak;injection ak with ak;injection ak with ak;omega
  ·obtain⟨off,hA⟩:=a7;obtain⟨b',aq,u,ak,J,_⟩:=W1.fF.at_ (i:=0) (by have:=W1.n6;simp;omega) (by decide);rw[hA]at ak;injection ak with ak;injection ak with ak;omega
 have PL:dp w2 zz (λ_=>aC.new) (List.replicate zz.homes.length 0) (List.replicate zz.homes.length aa).toArray (λb=>w.heap.size<=b/\b<w2.heap.size) pb []:=
  ⟨⟨a,aa,W1.below b2,bP,aD.nil _ _ _ _ _,λe=>(by have:=aE pb e;omega),λb a7=>(by cases a7),λb a7=>by
   have:=b1.size;rcases a7 with a7 | a7 | a7
   ·have:=aE b a7;exact⟨ua b a7,by omega⟩
   ·exact⟨by omega,by omega⟩
   ·cases a7⟩,λb a7=>a7.2⟩
 have HW:=dx bl b1 b2 PL;clear bP W1 ua aE PL s2 bl b1 b2;go_wp2_with fail;rw[<-a8]
 try rw[<-HW.out.1]
 clear a8;have bb:=Ap w2;go_fit bb;clear bb;rintro e w3 ⟨mb,fb,rfl,D3,b3,b7,aO⟩;have I3:Inv pb fb 0 w3 (λb=>b=ob\/b=mb\/aa.ownBlock=some b):=by
  obtain⟨bl,b1,b2,PL⟩:=HW.out;have bw:=HP.out.2.2;have bQ:=b1.size;have au:=b2.size;have M:=(b1.trans (b2.mono bQ)).trans (b3.mono (Nat.le_trans bQ au));refine HP.out.1.start w3 _ _ pb fb M (λb a7=>a7.1) (λb e=>e.elim .inl (λe=>e.elim (λe=>.inr (by omega)) (λe=>by cases e))) (λb e=>e.elim (λe=>by have:=M.size;omega) (λe=>e.elim (λe=>by obtain⟨f,hf,_⟩:=D3.map;rw[e];exact hf.lt) (λe=>by cases e))) (PL.below b3) D3.box (λe=>by omega) (λe=>?_) (λb a7 e=>?_)
  ·rcases e with e | e | e
   ·omega
   ·exact D3.ne e.symm
   ·cases e
  ·rcases e with e | e | e
   ·omega
   ·omega
   ·cases e
 have HD:=fm D3 b3 b7;have aL:∀i,i<no->∀j v,(oc i).cells[j]? =some v->w3.cell? ⟨ob,i*6+j,none⟩=some v:=λi hi j v hv=>by
  have h1:=HP.out.2.1 i hi j v hv;have M:=(HW.out.2.1.trans (HW.out.2.2.1.mono HW.out.2.1.size)).trans (b3.mono (Nat.le_trans HW.out.2.1.size HW.out.2.2.1.size));rw[World.cell?_of_block (w:=w) (w':=w3) (a:=⟨ob,i*6+j,none⟩) (M.block ob HP.out.2.2)];exact h1
 have HO:=di aL (show ob<w3.heap.size by have:=HP.out.2.2;have:=HW.out.2.1.size;have:=HW.out.2.2.1.size;have:=b3.size;omega);have aU:Hid (Below w w w3):=(HW.out.2.1.trans (HW.out.2.2.1.mono HW.out.2.1.size)).trans (b3.mono (Nat.le_trans HW.out.2.1.size HW.out.2.2.1.size));clear D3 b3 b7 aO aL;go_wp2_with fail
 go_loopw [14,39] (λv_ i_ wr=>∃ (i:Nat) (rs:List hB),i_=I af i/\i<=no/\aD kw 66 wr w3 (λ_=>False) v_ rs/\rs.length=i/\Hid (∀k (h:k<rs.length),Good k rs[k])/\Inv pb fb i wr (λb=>b=ob\/b=mb\/v_.ownBlock=some b)/\Hid (wr.heap[ob]? =w3.heap[ob]?/\wr.heap[mb]? =w3.heap[mb]?/\w3.heap.size<=wr.heap.size/\Below w w wr)) (λ_ i _=>no- (intOf i).toNat)
 case atStart=>exact⟨0,[],rfl,Nat.zero_le _,aD.nil _ _ _ _ _,rfl,(λk h=>absurd h (by simp)),I3,⟨rfl,rfl,Nat.le_refl _,aU.out⟩⟩
 case round=>
  obtain⟨i,rs,rfl,hi,O,ax,hG,bc,HK⟩:=hrel;by_cases bA:i<no
  ·have bE:(i:Int)<(no:Int):=(by omega);obtain⟨AR,nR,cR,rfl,aX,a4⟩:=O.form;have aN:nR=i:=aX.out.trans ax;subst aN;obtain⟨⟨k0,c1,c2,c3,A4,n4,c4⟩,ad⟩:∃x,x=oc nR:=⟨_,rfl⟩;have hc:∀j v,([I af k0,I af c1,I af c2,I af c3,Y A4 n4 c4,aa]:List Value)[j]? =some v->wr.cell? ⟨ob,nR*6+j,none⟩=some v:=λj v hv=>by
    rw[World.cell?_of_block (w:=w3) (a:=⟨ob,nR*6+j,none⟩) HK.out.1];exact HO.out.1 nR bA j v (by rw[<-ad];exact hv)
   have d0:wr.cell? ⟨ob,nR*6,none⟩=some (I af k0):=hc 0 _ rfl;have d1:=hc 1 _ rfl;have d2:=hc 2 _ rfl;have d3:=hc 3 _ rfl;have d4:=hc 4 _ rfl;have d5:=hc 5 _ rfl;have aT:=HK.out.2.2.1;have ar:=HO.out.2;have aP:=HD.out.1.map;have az:mb<w3.heap.size:=(by obtain⟨f,hf,_⟩:=aP;exact hf.lt);have aQ:∀b,(Value.slice AR nR cR).ownBlock=some b->w3.heap.size<=b/\b<wr.heap.size:=λb a7=>O.lt a7;obtain⟨w4,bd⟩:=am ((wr.alloc (.cells (dk k0 c1 c2 c3 A4 n4 c4) 55)).alloc (.cells #[ag 1,ag 0,av 0,av 0,ag 0,aa,ag 0,ag 0,.bool false] 66));have bK:Below wr wr w4:=(by rw[bd];exact((Below.refl _ _).alloc (Nat.le_refl _) _).alloc (by simp) _);have s4:w4.heap.size=wr.heap.size+2:=(by rw[bd];simp);have aH:ai w4 (wr.heap.size+1) 66 #[ag 1,ag 0,av 0,av 0,ag 0,aa,ag 0,ag 0,.bool false]:=by
    rw[bd];have:=ai.made (wr.alloc (.cells (dk k0 c1 c2 c3 A4 n4 c4) 55)) 66 #[ag 1,ag 0,av 0,av 0,ag 0,aa,ag 0,ag 0,.bool false];simpa using this
   obtain⟨xb,a0⟩:=am wr.heap.size;rw[<-a0]at aH;obtain⟨ab,aR⟩:=am (xb+1);rw[<-aR]at aH;have lk:(Instr.lookup 109 (.map (some mb)) (ag k0) true).run Tryz.prog w4=.ok (.tuple #[.func (.func (K nR)) #[] (cp fb nR),.bool true]) w4:=by
    obtain⟨f,hf,f1,f2,f3,f4,f5,f6,f7,f8⟩:=aP;have dO:dh w4 mb f:=hf.aI (by rw[bK.block mb (by omega)];exact HK.out.2.1);have hv:=HP.out.1.does fb f f1 f2 f3 f4 f5 f6 f7 f8 nR bA;have hw:=HP.out.1.wf nR bA;rw[<-ad]at hv hw;rw[dG Tryz.underlying109 dO hw hv true];rfl
   rw[bd]at lk;have bZ:∀ (args:Array Value) (w:World),(callFunc (K nR) args).run Tryz.prog w=.ok (.enter (K nR) args) w:=HP.out.1.real nR bA;have I4:Inv pb fb nR w4 (λb=>(b=ob\/b=mb\/(Value.slice AR nR cR).ownBlock=some b)\/b=xb\/b=ab):=HP.out.1.off pb fb nR wr w4 _ _ bc (aw.ao bK _) (λb a7=>a7.imp id (λe=>by omega)) (λb a7=>a7.elim (λe=>e.elim (λe=>by omega) (λe=>e.elim (λe=>by omega) (λe=>by have:=(aQ b e).2;omega))) (λe=>by omega));have st:=HP.out.1.step pb fb nR w4 _ bA I4;rw[<-ad]at st;unfold xE.cells at st;have O4:=O.below bK;have bj:=Dx a0 aR s4 bK aQ aT ar az;clear O bc I4 ad hc a0 aR s4 bK aP aT ar az;go_wp2_with fail;rw[<-bd]
   try rw[<-bj.out.1]
   try rw[<-bj.out.2.1]
   clear bd lk d0 d1 d2 d3 d4 d5;go_fit st;clear st;rintro e w5 ⟨x,rfl,gx,I5,t5⟩;unfold hB.cells;have ay:=t5.aW aH (λh=>h.1 (.inr (.inr rfl)));have O5:=o8 O4 t5 (λb a7 h=>h.1 (.inl (.inr (.inr a7))));obtain⟨r0,r1,bf,r3,r4,r5,r6,r7,r8⟩:=ay.c9;have cj:=ay.free 0;have cf:=ay.free 1;have cd:=ay.free 2;have bW:=ay.free 3;have cb:=ay.free 4;have ce:=ay.free 5;have b6:=ay.free 6;have b4:=ay.free 7;have aZ:=ay.free 8;simp at r0 r1 bf r3 r4 r5 r6 r7 r8;have t6:=(((((((((aw.refl (λb=>b=ab) w5).set rfl 0 (ag x.e)).set rfl 1 (ag x.i1)).set rfl 2 (av x.i2)).set rfl 3 (av x.i3)).set rfl 4 (ag x.st)).set rfl 5 (Y x.A x.n x.c)).set rfl 6 (ag x.lo)).set rfl 7 (ag x.bu)).set rfl 8 (.bool x.up);have aG:=ay |>.put 0 (ag x.e) |>.put 1 (ag x.i1) |>.put 2 (av x.i2) |>.put 3 (av x.i3) |>.put 4 (ag x.st) |>.put 5 (Y x.A x.n x.c) |>.put 6 (ag x.lo) |>.put 7 (ag x.bu) |>.put 8 (.bool x.up);simp only[List.setIfInBounds_toArray,List.set_cons_zero,List.set_cons_succ]at aG;obtain⟨w6,aY⟩:=am (((((((((w5.setCell (aj ab) (ag x.e)).setCell ⟨ab,1,none⟩ (ag x.i1)).setCell ⟨ab,2,none⟩ (av x.i2)).setCell ⟨ab,3,none⟩ (av x.i3)).setCell ⟨ab,4,none⟩ (ag x.st)).setCell ⟨ab,5,none⟩ (Y x.A x.n x.c)).setCell ⟨ab,6,none⟩ (ag x.lo)).setCell ⟨ab,7,none⟩ (ag x.bu)).setCell ⟨ab,8,none⟩ (.bool x.up));have aF:w6.heap.size=w5.heap.size:=(by rw[aY];simp);rw[<-aY]at t6 aG;have sm:=Src.made w6 66 [ag x.e,ag x.i1,av x.i2,av x.i3,ag x.st,Y x.A x.n x.c,ag x.lo,ag x.bu,.bool x.up];rw[aF]at sm;have O6:=o8 O5 t6 (λb a7 e=>by have e:b=ab:=e;have:=(bj.out.2.2.2.2.1 b a7).2;have:=bj.out.1;have:=bj.out.2.1;omega);have bC:=(Below.refl w6 w6).alloc (Nat.le_refl _) (.cells x.cells.toArray 66);have Oa:=O6.below bC;have s5:=t5.size;have s6:=t6.size;have HS:=ja t5 t6 I5 gx bC;have bz:w3.heap.size<=w6.heap.size:=(by have:=bj.out;omega);unfold hB.cells at Oa bC;have a2:=Lib.hid aF;clear t5 t6 I5 gx O5 O6 O4 aH ay aG aF;go_wp2_with (at_builtin;rw[<-aY];clear aY;refine a9 _ rfl (.tmp 56) (.tmp 58) 62 rfl kw w3 66 i0 z0 88 Tryz.underlying62 bM bL bJ bR bB (by decide) (λ_=>False) (Y AR nR cR) rs rfl Oa (aj w5) 1 [ag x.e,ag x.i1,av x.i2,av x.i3,ag x.st,Y x.A x.n x.c,ag x.lo,ag x.bu,.bool x.up] x rfl sm rfl (by rw[ax];unfold maxLen;omega) (by rw[ax];omega) (Nat.le_trans bz (by simp)) ?_;rw[ax];intro A7 c7 w7 O7 cz gr ah)
   go_round
   case rel=>
    obtain⟨t5,t6,I5,gx,bC⟩:=HS.out;obtain⟨a0,aR,s4,bK,aQ,aT,ar,az⟩:=bj.out;have ba:=bC.size;have aF:=a2.out;have t7:aw (λb=>(b=ob\/b=mb\/(Value.slice AR nR cR).ownBlock=some b)\/b=xb\/b=ab) w5 w7:=((t6.wide (λb _ e=>.inr (.inr e))).trans (aw.ao bC λ_=>False) (λ_ _ e=>e.elim)).trans (aw.bN gr (F:=λb=>(Value.slice AR nR cR).ownBlock=some b) (λb a7=>a7)) (λb _ e=>.inl (.inr (.inr e)));have I7:=HP.out.1.off pb fb (nR+1) w5 w7 _ (λb=>b=ob\/b=mb\/(Value.slice A7 (nR+1) c7).ownBlock=some b) I5 t7 (λb a7=>by
     rcases a7 with a7 | a7 | a7
     ·exact .inl (.inl (.inl a7))
     ·exact .inl (.inl (.inr (.inl a7)))
     ·rcases ah with e | e
      ·exact .inl (.inl (.inr (.inr (e.symm.trans a7))))
      ·rw[e]at a7;injection a7 with a7;right;rw[<-a7];simp;omega) (λb a7=>by
     have bi:=t7.size;rcases a7 with a7 | a7 | a7
     ·omega
     ·omega
     ·exact(O7.lt a7).2)
    have aI:∀b,b<w3.heap.size->(b=ob\/b=mb)->w7.heap[b]? =wr.heap[b]? :=λb a7 hm=>by
     have h1:w4.heap[b]? =wr.heap[b]? :=bK.block b (by omega);have h2:w5.heap[b]? =w4.heap[b]? :=t5.aI b (by omega) (λh=>h.1 (.inl (hm.imp id .inl)));have t67:aw (λb=>b=ab\/(Value.slice AR nR cR).ownBlock=some b) w5 w7:=((t6.wide (λb _ e=>.inl e)).trans (aw.ao bC λ_=>False) (λ_ _ e=>e.elim)).trans (aw.bN gr (F:=λb=>(Value.slice AR nR cR).ownBlock=some b) (λb a7=>a7)) (λb _ e=>.inr e);have a1:w7.heap[b]? =w5.heap[b]? :=t67.aI b (by omega) (λe=>e.elim (λe=>by omega) (λe=>by have:=(aQ b e).1;omega));rw[a1,h2,h1]
    have s7:=t7.size;have t67:aw (λb=>w.heap.size<=b) w5 w7:=((t6.wide (G:=λb=>w.heap.size<=b) (λb _ e=>by have e:b=ab:=e;have:=aU.out.size;omega)).trans (aw.ao bC λ_=>False) (λ_ _ e=>e.elim)).trans (aw.bN gr (F:=λb=>(Value.slice AR nR cR).ownBlock=some b) (λb a7=>a7)) (λb _ e=>by have:=(aQ b e).1;have:=aU.out.size;omega);have aJ:Below w w w7:=((((aw.ao (HK.out.2.2.2.trans (bK.mono HK.out.2.2.2.size)) λ_=>False).wide (G:=λb=>w.heap.size<=b) (λ_ _ e=>e.elim)).trans t5 (λb _ e=>e.2)).trans t67 (λ_ _ e=>e)).below (Nat.le_refl _) (λb _ e=>e);refine⟨nR+1,rs++[x],by go_num,by omega,O7,by rw[List.length_append,ax];rfl,?_,I7,⟨(aI ob ar (.inl rfl)).trans HK.out.1,(aI mb az (.inr rfl)).trans HK.out.2.1,by omega,aJ⟩⟩;intro k hk;by_cases aB:k<rs.length
    ·rw[List.getElem_append_left aB];exact hG.out k aB
    ·rw[List.length_append]at hk;have hk:k<rs.length+1:=hk;obtain rfl:k=rs.length:=(by omega);rw[List.getElem_append_right (Nat.le_refl _)];simp only[Nat.sub_self,List.getElem_cons_zero];rw[ax];exact gx
   case measure=>simp[intOf];omega
  ·obtain rfl:i=no:=(by omega);obtain⟨AR,nR,cR,rfl,aX,a4⟩:=O.form;have aN:nR=i:=aX.out.trans ax;subst aN;have sl:=O.slice (S':=λ_=>False) (λ_ e=>e) (λ_ e=>e.elim);clear O bc;go_wp2;go_ret2;exact⟨AR,cR,rs,rfl,ax,hG.out,sl,HK.out.2.2.2⟩
namespace Sk
theorem Bm:((List.range 5).all λn=>(trees n).all ck)=true:=by decide+kernel
theorem C3:((((trees 4).drop 0).take 3).all λp=>(ext p).all ck)=true:=by decide+kernel
theorem Dd:((((trees 4).drop 3).take 3).all λp=>(ext p).all ck)=true:=by decide+kernel
theorem Dh:((((trees 4).drop 6).take 3).all λp=>(ext p).all ck)=true:=by decide+kernel
theorem Dl:((((trees 4).drop 9).take 3).all λp=>(ext p).all ck)=true:=by decide+kernel
theorem Dq:((((trees 4).drop 12).take 3).all λp=>(ext p).all ck)=true:=by decide+kernel
theorem Df:((((trees 4).drop 15).take 3).all λp=>(ext p).all ck)=true:=by decide+kernel
theorem Da:((((trees 4).drop 18).take 3).all λp=>(ext p).all ck)=true:=by decide+kernel
theorem Dj:((((trees 4).drop 21).take 3).all λp=>(ext p).all ck)=true:=by decide+kernel
theorem Bs:∀p∈trees 5,ck p=true:=λp hp=>by
 rw[trees,List.mem_flatMap]at hp;obtain⟨q,hq,he⟩:=hp;have hl:(trees 4).length=24:=by decide+kernel
 obtain⟨i,hi,rfl⟩:=List.getElem_of_mem hq;have hk:∀ (k:Nat),((((trees 4).drop (3*k)).take 3).all λp=>(ext p).all ck)=true->3*k<=i->i<3*k+3->ck p=true:=λk h h1 h2=>by
  refine List.all_eq_true.1 (List.all_eq_true.1 h (trees 4)[i] ?_) p ?_
  ·rw[List.mem_iff_getElem?];refine⟨i-3*k,?_⟩;rw[List.getElem?_take_of_lt (by omega),List.getElem?_drop,show 3*k+(i-3*k)=i by omega,List.getElem?_eq_getElem hi]
  ·unfold ext;have:((trees 4)[i]).length=5:=by
    have bi:((trees 4).all λp=>p.length==5)=true:=(by decide+kernel);exact beq_iff_eq.1 (List.all_eq_true.1 bi _ (List.getElem_mem hi))
   rw[this];exact he
 have:i<24:=by omega
 by_cases h0:i<3
 ·exact hk 0 C3 (by omega) (by omega)
 by_cases h1:i<6
 ·exact hk 1 Dd (by omega) (by omega)
 by_cases h2:i<9
 ·exact hk 2 Dh (by omega) (by omega)
 by_cases a1:i<12
 ·exact hk 3 Dl (by omega) (by omega)
 by_cases h4:i<15
 ·exact hk 4 Dq (by omega) (by omega)
 by_cases bi:i<18
 ·exact hk 5 Df (by omega) (by omega)
 by_cases h6:i<21
 ·exact hk 6 Da (by omega) (by omega)
 ·exact hk 7 Dj (by omega) (by omega)
theorem BH(p:List Nat)(h1:1<=p.length)(h6:p.length<=6)(h0:p.getD 0 0=0)(hp:∀i,1<=i->i<p.length->p.getD i 0<i):ck p=true:=by
 have hm:=og (p.length-1) p (by omega) h0 hp;by_cases bi:p.length=6
 ·rw[bi]at hm;exact Bs p hm
 ·exact List.all_eq_true.1 (List.all_eq_true.1 Bm (p.length-1) (List.mem_range.2 (by omega))) p hm
end Sk
section
theorem iJ:∀ (l:List ae) (s:aC),(l.foldl aC.bP s).calls=s.calls
 | [],_=>rfl
 | x::l,s=>iJ l (s.bP x)
theorem kM:∀ (l:List ae) (s:aC),(l.foldl aC.dd s).calls=s.calls
 | [],_=>rfl
 | x::l,s=>kM l (s.dd x)
theorem kZ(z:aM)(s:aC):(hd z s).calls=s.calls:=by
 unfold hd;exact(iJ _ _).trans (iJ _ _)
theorem k3:∀ (l:List ae) (s:aC) (h:Nat),(cn s h l).calls=s.calls
 | [],_,_=>rfl
 | x::l,s,h=>by
  rw[cn,k3 l];unfold cw;split<;>rfl
theorem qb(m:bc)(s:aC):(iB m s).calls=s.calls:=by
 unfold iB;rw[kM,k3]
theorem qs(zz:aM)(s:aC)(i:Nat)(bs:Nat->aC)(to j:Nat):(dE zz s i bs to j).calls=(bs j).calls:=by
 unfold dE;split
 ·unfold put;by_cases e:j=to
  ·subst e;rw[if_pos rfl];unfold eQ;split
   ·rw[kZ];rfl
   ·rfl
  ·rw[if_neg e]
 ·split
  ·unfold put;by_cases e:j=to
   ·subst e;rw[if_pos rfl];exact qb _ _
   ·rw[if_neg e]
  ·rfl
theorem kF(zz:aM)(s:aC)(i j:Nat):∀ (l:List Nat) (bs:Nat->aC),(l.foldl (dE zz s i) bs j).calls=(bs j).calls
 | [],_=>rfl
 | to::l,bs=>(kF zz s i j l _).trans (qs zz s i bs to j)
theorem qW(zz:aM)(bs:Nat->aC)(i j:Nat):(g4 zz bs i j).calls=(bs j).calls:=by
 unfold g4;rw[kF];unfold put cN;split
 ·rename_i e;subst e;split
  ·rename_i e;subst e;exact kZ _ _
  ·rfl
 ·rfl
theorem jZ(zz:aM)(j:Nat):∀ (l:List Nat) (bs:Nat->aC),(fJ zz l bs j).calls=(bs j).calls
 | [],_=>rfl
 | i::l,bs=>(jZ zz j l (g4 zz bs i)).trans (qW zz bs i j)
theorem fP(zz:aM)(j:Nat):∀ (k:Nat) (bs:Nat->aC),(bM zz k bs j).calls=(bs j).calls
 | 0,_=>rfl
 | k+1,bs=>(fP zz j k _).trans (jZ zz j _ bs)
structure Shape (zz:aM):Prop where
 n1:1<=zz.n
 n6:zz.n<=6
 up:∀i,1<=i->i<zz.n->zz.p i<i
 ok:∀i,i<zz.n->(zz.at_ i).ok
 room:8*zz.g<=zz.room
 g:60<=zz.g
def pl(zz:aM):List Nat:=(List.range zz.n).map λj=>if j=0 then 0 else zz.p j
structure Rest (E:Nat->ae) (zz:aM) (bs:Nat->aC) (l:List Nat) (n0 n1:Nat):Prop where
 inv:ec E zz bs
 abs:dK E zz bs=Sk.canon (pl zz) l n0 n1
section
variable {E:Nat->ae}{zz:aM}{bs:Nat->aC}{l:List Nat}{n0 n1 a:Nat}
theorem hD(zz:aM):(pl zz).length=zz.n:=by simp[pl]
theorem qo{j:Nat}(h:j<zz.n):(pl zz).getD j 0=if j=0 then 0 else zz.p j:=by
 unfold pl;rw[List.getD_eq_getElem?_getD,List.getElem?_map,List.getElem?_range h];rfl
theorem Shape.mR(h:Shape zz):vI (pl zz):=by
 have h1:=h.n1;refine ut (Sk.BH _ (by rw[hD];exact h1) (by rw[hD];exact h.n6) (by rw[qo (by omega)];rfl) (λi hi hl=>?_));rw[hD]at hl;rw[qo hl,if_neg (by omega)];exact h.up i hi hl
theorem Shape.Av(h:Shape zz)(hE:cG E zz.g):mG E zz (pl zz):=
 ⟨λi hi=>⟨h.ok i hi,hE,h.room,hD zz,λj h1 h2=>by rw[qo (show j<zz.n from h2),if_neg (by omega)];rfl⟩,h.up⟩
theorem ir(h:Shape zz)(i:Nat):Inv E (zz.at_ i) aC.new:=by
 have e:=lr;have hg:=h.g;refine⟨λx hx=>(by cases hx),λx hx=>(by cases hx),λx hx=>(by cases hx),λx hx=>(by cases hx),λk m hk=>(by cases hk),⟨λx hx=>(by cases hx),λx hx=>(by cases hx),λx hx=>(by cases hx),λx hx=>(by cases hx),λk m hk=>(by cases hk),λi hi=>(by simp[aC.new]at hi),by decide,by decide,by decide,by decide,⟨⟨⟨(by decide:0<1),(by decide:1<18446744073709551616)⟩,trivial⟩,rfl⟩,λr hr=>?_⟩⟩;rw[List.mem_singleton.1 hr,e];show 4+40<=zz.g/\_;omega
theorem Rest.calm(r:Rest E zz bs l n0 n1){i:Nat}(hi:i<zz.n):Calm E (bs i) l:=(zD r.abs (hD zz) hi).1
theorem sd(h:Shape zz)(hE:cG E zz.g)(ha:a<zz.n)(a7:∀i,i<zz.n->bs i=aC.new)(c:Nat):c7 zz 60 (dB bs a (E 0) c)/\Rest E zz (bM zz 60 (dB bs a (E 0) c)) [0] 2 2:=by
 have aP:=h.Av hE;have P:=h.mR;have i0:ec E zz bs:=λi hi=>by rw[a7 i hi];exact ir h i
 have a0:dK E zz bs=Sk.start (pl zz):=r0 (λi hi=>by rw[a7 i hi];exact⟨rfl,rfl,rfl,rfl,λ_=>rfl,rfl⟩) (hD zz);obtain⟨i1,bg⟩:=nj aP i0 ha (x:=E 0) ⟨0,by omega,.inl rfl⟩ c;rw[a0,show tok E (E 0)=0 from hE.dO (by omega)]at bg;obtain⟨r1,bf,r3⟩:=jb aP h.n1 (P.one a (by rw[hD];exact ha)) P.C9 59 _ i1 bg;exact⟨r1,bf,r3⟩
theorem rj(h:Shape zz)(hE:cG E zz.g)(ha:a<zz.n)(r:Rest E zz bs [0] 2 2)(c:Nat):c7 zz 60 (dB bs a (E 1) c)/\Rest E zz (bM zz 60 (dB bs a (E 1) c)) [0,1] 3 3:=by
 have aP:=h.Av hE;have P:=h.mR;obtain⟨i1,bg⟩:=nj aP r.inv ha (x:=E 1) ⟨1,by omega,.inl rfl⟩ c;rw[r.abs,show tok E (E 1)=1 from hE.dO (by omega)]at bg;obtain⟨r1,bf,r3⟩:=jb aP h.n1 (P.two a (by rw[hD];exact ha)) P.CW 59 _ i1 bg;exact⟨r1,bf,r3⟩
theorem oT(h:Shape zz)(hE:cG E zz.g)(r:Rest E zz bs [0,1] 3 3)(c:Nat):c7 zz 60 (dB bs 0 (E 2) c)/\Rest E zz (bM zz 60 (dB bs 0 (E 2) c)) [0,1,2] 4 5:=by
 have aP:=h.Av hE;have P:=h.mR;obtain⟨i1,bg⟩:=nj aP r.inv h.n1 (x:=E 2) ⟨2,by omega,.inl rfl⟩ c;rw[r.abs,show tok E (E 2)=2 from hE.dO (by omega)]at bg;obtain⟨r1,bf,r3⟩:=ra aP h.n1 P.three P.Dg 58 _ i1 bg;exact⟨r1,bf,r3⟩
theorem s4(hE:cG E zz.g)(r:Rest E zz bs [0,1,2] 4 5){i:Nat}(hi:i<zz.n):
 (bs i).list.length=3/\(bs i).aF=[]/\bd (bs i).list (E 2).id=true/\∀c,ju (bs i).list c 3/\fU (bs i).list c 3=[]:=by
 have cl:=(r.calm hi).list;have cM:=(r.calm hi).aF;have az:=(r.inv i hi).list;generalize (bs i).list=L at*;obtain⟨x0,x1,x2,rfl⟩:∃x0 x1 x2,L=[x0,x1,x2]:=by
  have hl:L.length=3:=by rw[<-List.length_map (tok E),cl];rfl
  match L,hl with
  | [x0,x1,x2],_=>exact⟨x0,x1,x2,rfl⟩
 have e:=cl;simp only[List.map_cons,List.map_nil,List.cons.injEq,and_true]at e;have k0:=(hE.kind (az x0 (by simp))).2.1.2 e.1;have k1:=(hE.kind (az x1 (by simp))).2.2.1.2 e.2.1;have k2:=(hE.kind (az x2 (by simp))).1.2 e.2.2;have i2:x2.id=(E 2).id:=by
  refine(hE.inj (az x2 (by simp)).id ⟨2,by omega,rfl⟩).2 ?_;rw[hE.dO (by omega)];exact e.2.2
 refine⟨rfl,cM,by simp[bd,i2],λc=>⟨⟨Nat.le_refl _,λj hj _=>?_,λh=>absurd h (by simp)⟩,by simp[fU]⟩⟩;have hj:j<3:=hj;obtain rfl | rfl | rfl:j=0\/j=1\/j=2:=by omega
 ·simp[fg,k0]
 ·simp[fg,k1]
 ·simp[fg,bQ,dR,k0,k1]
end
end
def zA:aM:=⟨0,2,λ_=>0,[1],400,10000⟩
def ql:List aO:=[⟨[112],⟨1,5,[]⟩⟩]
def pA:ae:=gI ⟨1,⟨1,1,2⟩,0,0,[]⟩ ql
def eA:Nat->ae:=λt=>if t=0 then⟨2,⟨1,1,1⟩,0,1,[]⟩else if t=1 then⟨3,⟨1,1,9⟩,0,1,[]⟩else⟨1,⟨1,1,2⟩,0,0,[ql]⟩
def da.oB(a b:da):Bool:=decide (a.kind=b.kind)&&(decide (a.n=b.n)&&decide (a.s=b.s))
def aO.oB(a b:aO):Bool:=decide (a.name=b.name)&&a.v.oB b.v
def ae.oB(a b:ae):Bool:=decide (a.kind=b.kind)&&(decide (a.id=b.id)&&(decide (a.ah=b.ah)&&(decide (a.sub=b.sub)&&Sk.q8 (Sk.q8 aO.oB) a.events b.events)))
theorem xk:∀a b:aO,a.oB b=true->a=b:=λ⟨bg,a2,bG,bw⟩ ⟨b1,b2,b3,bK⟩ h=>by
 simp only[aO.oB,da.oB,Bool.and_eq_true,decide_eq_true_eq]at h;rw[h.1,h.2.1,h.2.2.1,h.2.2.2]
theorem oa:∀a b:ae,a.oB b=true->a=b:=λ⟨bg,a2,bG,bw,bO⟩ ⟨b1,b2,b3,bK,bS⟩ h=>by
 simp only[ae.oB,Bool.and_eq_true,decide_eq_true_eq]at h;rw[h.1,h.2.1,h.2.2.1,h.2.2.2.1,Sk.iK (λa b=>Sk.iK xk) h.2.2.2.2]
theorem ku{a b:List ae}(h:Sk.q8 ae.oB a b=true):a=b:=Sk.iK oa h
theorem Ck:pA=eA 2:=oa _ _ (by kernel_rfl)
theorem jz:Shape zA:=⟨by decide,by decide,λi h1 _=>h1,λi hi=>⟨hi,(by decide:2<=16),(by decide:1<=1),(by decide:1<=32),λk hk=>by rw[List.mem_singleton.1 hk];exact(by decide:1<2),(by decide:400<=4000),(by decide:10000<=1048576)⟩,by decide,by decide⟩
theorem pq:cG eA zA.g:=by
 refine⟨by decide,by decide,by decide,rfl,rfl,rfl,rfl,rfl,λt ht=>?_⟩;obtain rfl | rfl | rfl:t=0\/t=1\/t=2:=by omega
 all_goals refine⟨⟨⟨by decide,⟨by decide,by decide,by decide⟩,by decide,by decide,by decide,by decide,by decide,λe he=>?_⟩,by decide+kernel⟩,⟨by decide,⟨by decide,by decide,by decide⟩,by decide,by decide,by decide,by decide,by decide,λe he=>by cases he⟩,by decide+kernel⟩
 ·cases he
 ·cases he
 ·rw[List.mem_singleton.1 he];exact⟨by decide+kernel,λa ha=>by rw[List.mem_singleton.1 ha];exact⟨by decide,by decide,by decide⟩⟩
def z7:Nat->aC:=λ_=>aC.new
def ve:Nat->aC:=put z7 1 {z7 1 with aF:=[⟨eA 0,true⟩],calls:=1}
def oV:Nat->aC:=put ve 1 {ve 1 with aF:=[⟨eA 0,true⟩,⟨⟨1,⟨1,1,2⟩,0,0,[]⟩,false⟩],calls:=2}
def sU:Nat->aC:=put oV 1 {oV 1 with aF:=[⟨eA 0,true⟩,⟨eA 2,false⟩]}
def gK:Nat->aC:=put sU 1 {sU 1 with aF:=[⟨eA 0,true⟩,⟨eA 2,true⟩]}
def rA(k:Nat):Option (List Sk.B):=match k with
 | 0=>some (Sk.ask (Sk.start [0,0]) 1 [0,2])
 | k+1=>(rA k).bind (Sk.round [0,0])
theorem mf{E:Nat->ae}{zz:aM}{p:List Nat}(aP:mG E zz p)(aL:0<zz.n):∀ (k:Nat) (f:Nat->Option (List Sk.B)) (bs:Nat->aC),ec E zz bs->f 0=some (dK E zz bs)->(∀j,f (j+1)=(f j).bind (Sk.round p))->(f k).isSome=true->c7 zz k bs/\ec E zz (bM zz k bs)
 | 0,_,_,a7,_,_,_=>⟨trivial,a7⟩
 | k+1,f,bs,a7,h0,hs,hk=>by
  have h1:∃c,f 1=some c:=by
   have:∀j,(f (j+1)).isSome=true->(f 1).isSome=true:=λj=>by
    induction j with
    | zero=>exact id
    | succ j M=>
     intro h;apply M;rw[hs (j+1)]at h;cases e:f (j+1)with
     | none=>rw[e]at h;cases h
     | some c=>rfl
   exact Option.isSome_iff_exists.1 (this k hk)
  obtain⟨c,hc⟩:=h1;have hr:Sk.round p (dK E zz bs)=some c:=by
   have:=hs 0;rw[h0,hc]at this;exact this.symm
  obtain⟨c1,i1,e1⟩:=iU aP aL a7 hr;obtain⟨c2,i2⟩:=mf aP aL k (λj=>f (j+1)) _ i1 (hc.trans (by rw[e1])) (λj=>hs (j+1)) hk;exact⟨⟨c1,c2⟩,i2⟩
theorem vJ(t:List ct)(c:Nat)(h:∀x∈t,ch (zA.at_ 1) x.entry)(hl:t.length<=8):Fit (zA.at_ 1) {aC.new with aF:=t,calls:=c}:=by
 have f:=(ir (E:=eA) jz 1).fit;exact⟨f.list,f.ay,h,f.waits,f.bU,f.lX,f.l1,f.l2,hl,f.l4,f.run,f.enc⟩
theorem p4:ch (zA.at_ 1) (eA 0):=pq.ch (z:=zA.at_ 1) rfl ⟨0,by omega,.inl rfl⟩
theorem zH:ch (zA.at_ 1) (eA 2):=pq.ch (z:=zA.at_ 1) rfl ⟨2,by omega,.inl rfl⟩
theorem Cv:ch (zA.at_ 1) ⟨1,⟨1,1,2⟩,0,0,[]⟩:=pq.ch (z:=zA.at_ 1) rfl ⟨2,by omega,.inr rfl⟩
theorem Di:ec eA zA gK:=by
 intro i hi;have hi:i<2:=hi;obtain rfl | rfl:i=0\/i=1:=by omega
 ·exact ir jz 0
 ·have b:=ir (E:=eA) jz 1;refine⟨b.list,b.ay,λt ht=>?_,b.waits,b.bU,vJ [⟨eA 0,true⟩,⟨eA 2,true⟩] 2 (λt ht=>?_) (by decide)⟩
  ·have ht:t∈[(⟨eA 0,true⟩:ct),⟨eA 2,true⟩]:=ht;simp only[List.mem_cons,List.not_mem_nil,or_false]at ht;rcases ht with rfl | rfl
   ·exact⟨rfl,0,by omega,.inl rfl⟩
   ·exact⟨rfl,2,by omega,.inl rfl⟩
  ·simp only[List.mem_cons,List.not_mem_nil,or_false]at ht;rcases ht with rfl | rfl
   ·exact p4
   ·exact zH
theorem Dr:dK eA zA gK=Sk.ask (Sk.start [0,0]) 1 [0,2]:=Sk.iK Sk.vE (by kernel_rfl)
theorem Cd:(rA 3).isSome=true:=by decide+kernel
theorem m7:c7 zA 3 gK/\ec eA zA (bM zA 3 gK):=mf (p:=[0,0]) (by have:=jz.Av pq;exact this) (by decide) 3 rA gK Di (by rw[Dr];rfl) (λ_=>rfl) Cd
theorem B8:(bM zA 3 gK 1).list=[eA 0,eA 2]/\(bM zA 3 gK 0).list=[eA 0,eA 2]:=⟨ku (by kernel_rfl),ku (by kernel_rfl)⟩
theorem Cm:ju (bM zA 3 gK 1).list 0 1/\fU (bM zA 3 gK 1).list 0 1=[ql]:=by
 rw[B8.1];refine⟨⟨by decide,λi h hi=>?_,λ_=>(by decide:0<1)⟩,rfl⟩;obtain rfl:i=0:=by omega
 rfl
section
def nJ(eb:Nat):Nat->xE
 | 0=>⟨13,0,1,0,none,0,0⟩
 | 1=>⟨9,0,0,0,none,0,0⟩
 | 2=>⟨10,0,0,1,some ⟨eb,0,none⟩,1,1⟩
 | 3=>⟨11,0,0,1,none,0,0⟩
 | 4=>⟨8,0,0,0,none,0,0⟩
 | 5=>⟨8,0,0,0,none,0,0⟩
 | 6=>⟨8,0,0,0,none,0,0⟩
 | 7=>⟨16,0,0,0,none,0,0⟩
 | 8=>⟨6,0,0,0,none,0,0⟩
 | _=>⟨17,0,0,0,none,0,0⟩
def kA(i:Nat):Nat:=[83,82,85,86,81,81,81,89,146,90].getD i 0
def Bp(fb i:Nat):Array Value:=if i=8 then#[.pointer (aj fb)]else#[]
def g8(i:Nat)(x:hB):Prop:=(i=7->x.n=1)/\(i=8->x.e=0)/\(i=9->x.lo=2/\x.up=false)
def C2:Nat->Nat->aC
 | 0=>z7
 | 1=>ve
 | 2=>oV
 | 3=>sU
 | 4=>gK
 | 5=>eX zA gK
 | 6=>eX zA (eX zA gK)
 | _=>bM zA 3 gK
def B5:Nat->List PId
 | 0=>[]
 | 1=>[⟨1,1,1⟩]
 | _=>[⟨1,1,1⟩,⟨1,1,2⟩]
def Dp(i:Nat):List Nat:=if i=8 then [0].set 0 (ia (bM zA 3 gK 1).list 1)else [0]
structure eW (wI:World) (eb pb fb i:Nat) (w:World) (O:Nat->Prop):Prop where
 lt:∀b,O b->b<w.heap.size
 sz:wI.heap.size<=w.heap.size
 lZ:i<=8->∃U gs,dp w zA (C2 i) (Dp i) gs U pb (B5 i)/\(i<=7->gs=#[aa])/\(∀b,U b->¬O b)/\(∀b,U b->wI.heap.size<=b)/\¬U fb
 box:i<=8->¬O fb/\w.cell? (aj fb)=some (.func (.methodOf 106 "Crash") #[] #[])
 ev:i<=2->SliceAt cy w (λ_=>False) (aj eb) ql/\¬O eb/\eb<wI.heap.size
 down:i=9->∃a v,ai w pb 108 #[aj a.wb,v]/\fT w zA a 0 (bM zA 3 gK 0).recs/\∀b,a.hM 2 b\/b=pb->¬O b/\b<w.heap.size
theorem pM{w w':World}{O:Nat->Prop}{eb:Nat}{l:List aO}(h:SliceAt cy w (λ_=>False) (aj eb) l)(t:aw O w w')(aL:¬O eb):SliceAt cy w' (λ_=>False) (aj eb) l:=by
 have h2:=h.zt (S':=O) (λu x hu=>⟨hu.1,hu.2⟩) (λb off e _=>by injection e with e;injection e with e;rw[<-e];exact aL);exact h2.goes ⟨t.os,t.tape,t.output,t.size,t.aI,λ_ _ e=>e.elim⟩
theorem p2{w w':World}{O:Nat->Prop}{b:Nat}{v:Value}(h:w.cell? (aj b)=some v)(t:aw O w w')(aL:¬O b):w'.cell? (aj b)=some v:=by
 rw[World.cell?_of_block (w:=w) (w':=w') (a:=⟨b,0,none⟩) (t.aI b (World.block_lt_of_cell? w _ h) aL)];exact h
section
variable {wI w w':World}{eb pb fb i:Nat}{O O':Nat->Prop}
theorem eW.off(h:eW wI eb pb fb i w O)(t:aw O w w')(ho:∀b,O' b->O b\/w.heap.size<=b)(hl:∀b,O' b->b<w'.heap.size):eW wI eb pb fb i w' O':=by
 have bJ:=h.sz;refine⟨hl,Nat.le_trans h.sz t.size,λhi=>?_,λhi=>?_,λhi=>?_,λhi=>?_⟩
 ·obtain⟨U,gs,P,hg,hU,hl,hf⟩:=h.lZ hi;exact⟨U,gs,P.off t hU,hg,λb a7 e=>(ho b e).elim (hU b a7) (λe=>by have:=P.lt b a7;omega),hl,hf⟩
 ·obtain⟨h1,h2⟩:=h.box hi;exact⟨λe=>(ho fb e).elim h1 (λe=>by have:=World.block_lt_of_cell? w _ h2;simp at this;omega),p2 h2 t h1⟩
 ·obtain⟨h1,h2,a1⟩:=h.ev hi;exact⟨pM h1 t h2,λe=>(ho eb e).elim h2 (λe=>by omega),a1⟩
 ·obtain⟨a,v,h1,h2,a1⟩:=h.down hi;exact⟨a,v,t.aW h1 (a1 pb (.inr rfl)).1,h2.off t (λb a7=>(a1 b (.inl a7)).1),λb a7=>⟨λe=>(ho b e).elim (a1 b a7).1 (λe=>by have:=(a1 b a7).2;omega),Nat.lt_of_lt_of_le (a1 b a7).2 t.size⟩⟩
theorem eW.next{U:Nat->Prop}{gs:Array Value}(h:eW wI eb pb fb i w O)(hi:i<8)(hU:∀b,U b->¬O b)(hl:∀b,U b->wI.heap.size<=b)(hf:¬U fb)
 (P:dp w' zA (C2 (i+1)) (Dp (i+1)) gs (New U w w') pb (B5 (i+1))) (t:aw U w w') (hg:i+1<=7->gs=#[aa]):eW wI eb pb fb (i+1) w' O/\aw (λb=>¬O b/\wI.heap.size<=b) w w':=by
 have hs:=h.sz;refine⟨⟨λb e=>Nat.lt_of_lt_of_le (h.lt b e) t.size,Nat.le_trans hs t.size,λ_=>⟨_,gs,P,hg,λb a7 e=>?_,λb a7=>?_,λe=>?_⟩,λ_=>?_,λh2=>?_,λh9=>by omega⟩,t.wide (λb _ e=>⟨hU b e,hl b e⟩)⟩
 ·exact a7.elim (λa7=>hU b a7 e) (λa7=>by have:=h.lt b e;omega)
 ·exact a7.elim (hl b) (λa7=>by omega)
 ·have:=World.block_lt_of_cell? w _ (h.box (by omega)).2;exact e.elim hf (λe=>by simp at this;omega)
 ·obtain⟨h1,h2⟩:=h.box (by omega);exact⟨h1,p2 h2 t hf⟩
 ·obtain⟨h1,h2,a1⟩:=h.ev (by omega);exact⟨pM h1 t (λe=>by have:=hl eb e;omega),h2,a1⟩
end
end
section
theorem ov(a b:Value):(#[a,b]++(#[]:Array Value))=#[a,b]:=by simp
theorem Ds(a b c:Value):(#[a,b]++#[c])=#[a,b,c]:=by simp
def pH(e i1 i2 i3:Int):hB:=⟨e,i1,i2,i3,0,none,0,0,0,0,false⟩
theorem Ct:Fit (zA.at_ 1) (ve 1):=vJ [⟨eA 0,true⟩] 1 (λx hx=>by rw[List.mem_singleton.1 hx];exact p4) (by decide)
theorem Bt:Fit (zA.at_ 1) (oV 1):=vJ [⟨eA 0,true⟩,⟨⟨1,⟨1,1,2⟩,0,0,[]⟩,false⟩] 2 (λx hx=>by
 simp only[List.mem_cons,List.not_mem_nil,or_false]at hx;rcases hx with rfl | rfl
 ·exact p4
 ·exact Cv) (by decide)
theorem Be:Fit (zA.at_ 1) (sU 1):=vJ [⟨eA 0,true⟩,⟨eA 2,false⟩] 2 (λx hx=>by
 simp only[List.mem_cons,List.not_mem_nil,or_false]at hx;rcases hx with rfl | rfl
 ·exact p4
 ·exact zH) (by decide)
theorem BJ:put oV 1 {oV 1 with aF:=(oV 1).aF.set 1 ⟨gI (⟨1,⟨1,1,2⟩,0,0,[]⟩:ae) ql,false⟩}=sU:=by
 have e:gI (⟨1,⟨1,1,2⟩,0,0,[]⟩:ae) ql=eA 2:=Ck;rw[e];rfl
theorem z2{t:Nat}(ht:t<3):(eA t).aH/\dZ (eA t)=false:=by
 refine⟨(pq.fit t ht).1.1,?_⟩;obtain rfl | rfl | rfl:t=0\/t=1\/t=2:=by omega
 all_goals kernel_rfl
theorem y5:(⟨1,⟨1,1,2⟩,0,0,[]⟩:ae).aH/\dZ (⟨1,⟨1,1,2⟩,0,0,[]⟩:ae)=false:=⟨(pq.fit 2 (by omega)).2.1,by kernel_rfl⟩
theorem il{i:Nat}{x:hB}(h:i<7):g8 i x:=⟨λe=>(by omega),λe=>(by omega),λe=>(by omega)⟩
theorem re:0<zA.homes.length:=by decide
section
variable {wI:World}{eb pb fb:Nat}{O:Nat->Prop}{w:World}
theorem Ce(h:eW wI eb pb fb 0 w O):Calls Tryz.prog 83 #[aj pb,aE (nJ eb 0).cells.toArray] w λe w'=>∃x:hB,e=.returned (aE x.cells.toArray)/\g8 0 x/\eW wI eb pb fb 1 w' O/\aw (λb=>¬O b/\wI.heap.size<=b) w w':=by
 obtain⟨U,gs,P,hg,hU,hl,hf⟩:=h.lZ (by omega);have st:=Cq zA z7 [0] gs U pb [] w P 13 0 0 1 none 0 0 ⟨1,1,1⟩ ve (by decide) (λa w' W=>yZ zA z7 a (λ_=>[]) [0] gs 0 w' W re 1 rfl 1 (ir (E:=eA) jz 1).fit (by decide) (by decide) (z2 (t:=0) (by omega)).1 (z2 (t:=0) (by omega)).2 (by kernel_rfl)) (by omega);refine st.mono ?_;rintro e w' ⟨rfl,I,T⟩;exact⟨pH 0 1 1 1,rfl,il (by omega),h.next (by omega) hU hl hf I T (λ_=>hg (by omega))⟩
theorem CM(h:eW wI eb pb fb 1 w O):Calls Tryz.prog 82 #[aj pb,aE (nJ eb 1).cells.toArray] w λe w'=>∃x:hB,e=.returned (aE x.cells.toArray)/\g8 1 x/\eW wI eb pb fb 2 w' O/\aw (λb=>¬O b/\wI.heap.size<=b) w w':=by
 obtain⟨U,gs,P,hg,hU,hl,hf⟩:=h.lZ (by omega);have st:=zk zA ve [0] gs U pb [⟨1,1,1⟩] w P 9 0 0 0 none 0 0 ⟨1,1,2⟩ oV (by decide) (λa w' W=>rE zA ve a (λ_=>[]) [0] gs 0 w' W re 1 rfl Ct (by decide) (by decide) y5.1 y5.2 (by kernel_rfl));refine st.mono ?_;rintro e w' ⟨rfl,I,T⟩;exact⟨pH 0 1 1 2,rfl,il (by omega),h.next (by omega) hU hl hf I T (λ_=>hg (by omega))⟩
theorem CO(h:eW wI eb pb fb 2 w O):Calls Tryz.prog 85 #[aj pb,aE (nJ eb 2).cells.toArray] w λe w'=>∃x:hB,e=.returned (aE x.cells.toArray)/\g8 2 x/\eW wI eb pb fb 3 w' O/\aw (λb=>¬O b/\wI.heap.size<=b) w w':=by
 obtain⟨U,gs,P,hg,hU,hl,hf⟩:=h.lZ (by omega);obtain⟨ev,_⟩:=h.ev (by omega);have st:=uE zA oV [0] gs U pb [⟨1,1,1⟩,⟨1,1,2⟩] w P 10 0 1 0 (aj eb) 1 1 ⟨1,1,2⟩ sU (by decide) (by decide) rfl (λa w' W b=>by
  have:=nB zA oV a (λ_=>[]) [0] gs 0 w' W re 1 rfl ⟨1,1,2⟩ rfl (λ_=>False) (aj eb) 1 1 1 ql Bt (by decide) (by kernel_rfl) rfl rfl (by decide) rfl (ev.below b);rw[<-BJ];exact this)
 refine st.mono ?_;rintro e w' ⟨⟨r,rfl⟩,I,T⟩;exact⟨pH r 0 0 0,rfl,il (by omega),h.next (by omega) hU hl hf I T (λ_=>hg (by omega))⟩
theorem CI(h:eW wI eb pb fb 3 w O):Calls Tryz.prog 86 #[aj pb,aE (nJ eb 3).cells.toArray] w λe w'=>∃x:hB,e=.returned (aE x.cells.toArray)/\g8 3 x/\eW wI eb pb fb 4 w' O/\aw (λb=>¬O b/\wI.heap.size<=b) w w':=by
 obtain⟨U,gs,P,hg,hU,hl,hf⟩:=h.lZ (by omega);have st:=wx zA sU [0] gs U pb [⟨1,1,1⟩,⟨1,1,2⟩] w P 11 0 1 0 none 0 0 ⟨1,1,2⟩ gK (by decide) (by decide) rfl (λa w' W _=>pJ zA sU a (λ_=>[]) [0] gs 0 w' W re 1 rfl ⟨1,1,2⟩ rfl 1 Be (by decide) (by kernel_rfl) rfl);refine st.mono ?_;rintro e w' ⟨rfl,I,T⟩;exact⟨pH 0 0 0 0,rfl,il (by omega),h.next (by omega) hU hl hf I T (λ_=>hg (by omega))⟩
theorem CK{i:Nat}(hi:i=4\/i=5\/i=6)(h:eW wI eb pb fb i w O):Calls Tryz.prog 81 #[aj pb,aE (nJ eb i).cells.toArray] w λe w'=>∃x:hB,e=.returned (aE x.cells.toArray)/\g8 i x/\eW wI eb pb fb (i+1) w' O/\aw (λb=>¬O b/\wI.heap.size<=b) w w':=by
 obtain⟨U,gs,P,hg,hU,hl,hf⟩:=h.lZ (by omega);obtain⟨c1,c2,c3,_⟩:=m7.1;rcases hi with rfl | rfl | rfl
 focus
  refine(oj zA gK [0] gs U pb [⟨1,1,1⟩,⟨1,1,2⟩] w P 8 0 0 0 none 0 0 c1).mono ?_
 rotate_left
 focus
  refine(oj zA (eX zA gK) [0] gs U pb [⟨1,1,1⟩,⟨1,1,2⟩] w P 8 0 0 0 none 0 0 c2).mono ?_
 rotate_left
 focus
  refine(oj zA (eX zA (eX zA gK)) [0] gs U pb [⟨1,1,1⟩,⟨1,1,2⟩] w P 8 0 0 0 none 0 0 c3).mono ?_
 all_goals
  rintro e w' ⟨rfl,I,T⟩;exact⟨pH 0 0 0 0,rfl,il (by omega),h.next (by omega) hU hl hf I T (λ_=>hg (by omega))⟩
theorem Cf(h:eW wI eb pb fb 7 w O):Calls Tryz.prog 89 #[aj pb,aE (nJ eb 7).cells.toArray] w λe w'=>∃x:hB,e=.returned (aE x.cells.toArray)/\g8 7 x/\eW wI eb pb fb 8 w' O/\aw (λb=>¬O b/\wI.heap.size<=b) w w':=by
 obtain⟨U,gs,P,hg,hU,hl,hf⟩:=h.lZ (by omega);have aH:=hg (by omega);have pl:=Cm;have st:=Bd zA (bM zA 3 gK) [0] gs U pb [⟨1,1,1⟩,⟨1,1,2⟩] w P 16 0 0 0 none 0 0 1 ([0].set 0 (ia (bM zA 3 gK 1).list 1)) re (λa w' W=>by
  have:=tR zA (bM zA 3 gK) a [0] gs 0 w' W re 1 rfl 1 (m7.2 1 (by decide)).fit rfl (by rw[aH];rfl) pl.1 (by rw[pl.2];decide) (λe he=>by
   rw[pl.2]at he;rw[List.mem_singleton.1 he];exact⟨by decide,λa ha=>by rw[List.mem_singleton.1 ha];exact⟨by decide,by decide,by decide⟩⟩)
  rw[pl.2]at this;exact this)
 refine st.mono ?_;rintro e w' ⟨⟨A,n,k,rfl⟩,jQ,I,T⟩;exact⟨⟨0,0,0,0,0,A,1,n,k,0,false⟩,rfl,⟨λ_=>rfl,λh=>(by cases h),λh=>(by cases h)⟩,h.next (by omega) hU hl hf I T (λh=>by omega)⟩
theorem CN(h:eW wI eb pb fb 8 w O):Calls Tryz.prog 146 #[aj pb,aE (nJ eb 8).cells.toArray,aj fb] w λe w'=>∃x:hB,e=.returned (aE x.cells.toArray)/\g8 8 x/\eW wI eb pb fb 9 w' O/\aw (λb=>¬O b/\wI.heap.size<=b) w w':=by
 obtain⟨U,gs,P,hg,hU,hl,hf⟩:=h.lZ (by omega);refine(zX zA (bM zA 3 gK) _ gs U pb [⟨1,1,1⟩,⟨1,1,2⟩] w P 6 0 0 none 0 0 fb (h.box (by omega)).2 (by decide)).mono ?_;rintro e w' ⟨rfl,⟨a,v,bv,hD,hu⟩,T⟩;refine⟨pH 0 0 0 0,rfl,⟨λh=>(by cases h),λ_=>rfl,λh=>(by cases h)⟩,⟨λb e=>Nat.lt_of_lt_of_le (h.lt b e) T.size,Nat.le_trans h.sz T.size,λh=>(by omega),λh=>(by omega),λh=>(by omega),λ_=>⟨a,v,bv,hD,λb a7=>⟨hU b (hu b a7),Nat.lt_of_lt_of_le (P.lt b (hu b a7)) T.size⟩⟩⟩,T.wide (λb _ e=>⟨hU b e,hl b e⟩)⟩
theorem Cw(h:eW wI eb pb fb 9 w O):Calls Tryz.prog 90 #[aj pb,aE (nJ eb 9).cells.toArray] w λe w'=>∃x:hB,e=.returned (aE x.cells.toArray)/\g8 9 x/\eW wI eb pb fb 10 w' O/\aw (λb=>¬O b/\wI.heap.size<=b) w w':=by
 obtain⟨a,v,bv,hD,hu⟩:=h.down rfl;have I:=(m7.2 0 (by decide)).fit;have hm:(bM zA 3 gK 0).recs.length<=1000:=Nat.le_of_ble_eq_true (by kernel_rfl);have hf:=iQ 400 _ (λr hr=>(I.enc r hr).1);have hl:(a4.zero.run (bM zA 3 gK 0).recs).list.length=2:=by
  rw[I.run.2];show(bM zA 3 gK 0).list.length=2;rw[B8.2];rfl
 refine(AF zA a 0 _ pb v w bv hD 17 0 0 none 0 0 (by decide) (by decide) I.run.1 (λr hr=>(I.enc r hr).2) hm (by rw[m8]at hf;omega)).mono ?_;rintro e w' ⟨⟨k,rfl⟩,b⟩;rw[hl];refine⟨⟨0,0,0,0,0,none,0,0,2,k,false⟩,rfl,⟨λh=>(by cases h),λh=>(by cases h),λ_=>⟨rfl,rfl⟩⟩,⟨λb' e=>Nat.lt_of_lt_of_le (h.lt b' e) b.size,Nat.le_trans h.sz b.size,λh=>(by omega),λh=>(by omega),λh=>(by omega),λh=>(by omega)⟩,aw.ao b _⟩
end
theorem AX(wI:World)(ob eb:Nat)(ay:eb≠ob)(M:eb<wI.heap.size)(aB:SliceAt cy wI (λ_=>False) (aj eb) ql):zS wI ob zA 10 (nJ eb) kA Bp g8 (λpb fb i w O=>eW wI eb pb fb i w O):=by
 refine⟨λw U O pb fb b hU hO bA P I aa J Y=>?_,λpb fb i w w' O O' h t ho hl=>h.off t ho hl,λpb fb i w O hi h=>?_,λi hi=>?_,λfb f f1 f2 f3 f4 f5 f6 f7 f8 i hi=>?_,λi hi=>?_⟩
 ·exact⟨bA,b.size,λ_=>⟨U,_,P,λ_=>rfl,Y,hU,aa⟩,λ_=>⟨J,I⟩,λ_=>⟨aB.below b,λe=>(hO eb e).elim ay (λe=>by omega),M⟩,λh=>by cases h⟩
 ·obtain rfl | rfl | rfl | rfl | aC | rfl | rfl | rfl:i=0\/i=1\/i=2\/i=3\/(i=4\/i=5\/i=6)\/i=7\/i=8\/i=9:=by omega
  ·exact(ov _ _)▸Ce h
  ·exact(ov _ _)▸CM h
  ·exact(ov _ _)▸CO h
  ·exact(ov _ _)▸CI h
  ·have e1:kA i=81:=(by rcases aC with rfl | rfl | rfl<;>rfl);have a5:Bp fb i=#[]:=(by unfold Bp;rw[if_neg (by omega)]);rw[e1,a5,ov];exact CK aC h
  ·exact(ov _ _)▸Cf h
  ·exact(Ds _ _ _)▸CN h
  ·exact(ov _ _)▸Cw h
 ·obtain rfl | rfl | rfl | rfl | rfl | rfl | rfl | rfl | rfl | rfl:i=0\/i=1\/i=2\/i=3\/i=4\/i=5\/i=6\/i=7\/i=8\/i=9:=by omega
  ·exact bW (f:=83) Tryz.func83 rfl rfl
  ·exact bW (f:=82) Tryz.func82 rfl rfl
  ·exact bW (f:=85) Tryz.func85 rfl rfl
  ·exact bW (f:=86) Tryz.func86 rfl rfl
  ·exact bW (f:=81) Tryz.func81 rfl rfl
  ·exact bW (f:=81) Tryz.func81 rfl rfl
  ·exact bW (f:=81) Tryz.func81 rfl rfl
  ·exact bW (f:=89) Tryz.func89 rfl rfl
  ·exact bW (f:=146) Tryz.func146 rfl rfl
  ·exact bW (f:=90) Tryz.func90 rfl rfl
 ·obtain rfl | rfl | rfl | rfl | rfl | rfl | rfl | rfl | rfl | rfl:i=0\/i=1\/i=2\/i=3\/i=4\/i=5\/i=6\/i=7\/i=8\/i=9:=by omega
  ·exact f3
  ·exact f2
  ·exact f4
  ·exact f5
  ·exact f1
  ·exact f1
  ·exact f1
  ·exact f6
  ·exact f8
  ·exact f7
 ·obtain rfl | rfl | rfl | rfl | rfl | rfl | rfl | rfl | rfl | rfl:i=0\/i=1\/i=2\/i=3\/i=4\/i=5\/i=6\/i=7\/i=8\/i=9:=by omega
  all_goals kernel_rfl
end
theorem ya(n:Int):(Program.built Tryz.prog 57 [(0,I af 1),(1,I af n)]).map Array.toList=some [I af 1,I af n,str []]:=by kernel_rfl
theorem wH(n:Int)(w:World):(Instr.build 57 #[(0,I af 1),(1,I af n)]).run Tryz.prog w=.ok (aE #[ag 1,ag n,str []]) w:=by
 obtain⟨cs,h1,h2⟩:=Option.map_eq_some_iff.1 (ya n);rw[run_build w 57 _ cs h1];rw[show cs=#[I af 1,I af n,str []] from Array.toList_inj.1 h2]
theorem Ca(n:Int)(w:World):Calls Tryz.prog 16 #[ag n] w λe w'=>e=.returned (aE #[ag 1,ag n,str []])/\Below w w w':=by
 have bF:∀w,(Instr.build 57 #[(0,I af 1),(1,I af n)]).run Tryz.prog w=.ok (aE #[ag 1,ag n,str []]) w:=λw=>wH n w;go_enter Tryz.func16,Tryz.ntmps16;go_wp2_with fail
 try rw[Exit.noGoto_ret]
 refine bodyPost_ret (results_cell_row rfl _ _ w.heap.size 57 _ (0,0) _ rfl (ai.made w 57 _) Tryz.underlying57 rfl (by kernel_rfl)) rfl ?_;exact⟨rfl,(Below.refl _ _).alloc (Nat.le_refl _) _⟩
theorem xK:(Program.built Tryz.prog 60 [(0,str [112]),(1,aE #[ag 1,ag 5,str []])]).map Array.toList=some [str [112],I af 1,I af 5,str []]:=by kernel_rfl
theorem yc(w:World):(Instr.build 60 #[(0,str [112]),(1,aE #[ag 1,ag 5,str []])]).run Tryz.prog w=.ok (aE #[str [112],ag 1,ag 5,str []]) w:=by
 obtain⟨cs,h1,h2⟩:=Option.map_eq_some_iff.1 (xK);rw[run_build w 60 _ cs h1];rw[show cs=#[str [112],I af 1,I af 5,str []] from Array.toList_inj.1 h2]
theorem vk:(Program.built Tryz.prog 55 [(0,I af 13),(2,I af 1)]).map Array.toList=some [I af 13,I af 0,I af 1,I af 0,aa,aa]:=by kernel_rfl
theorem tM(w:World):(Instr.build 55 #[(0,I af 13),(2,I af 1)]).run Tryz.prog w=.ok (aE #[ag 13,ag 0,ag 1,ag 0,aa,aa]) w:=by
 obtain⟨cs,h1,h2⟩:=Option.map_eq_some_iff.1 (vk);rw[run_build w 55 _ cs h1];rw[show cs=#[I af 13,I af 0,I af 1,I af 0,aa,aa] from Array.toList_inj.1 h2]
theorem tO:(Program.built Tryz.prog 55 [(0,I af 9)]).map Array.toList=some [I af 9,I af 0,I af 0,I af 0,aa,aa]:=by kernel_rfl
theorem tv(w:World):(Instr.build 55 #[(0,I af 9)]).run Tryz.prog w=.ok (aE #[ag 9,ag 0,ag 0,ag 0,aa,aa]) w:=by
 obtain⟨cs,h1,h2⟩:=Option.map_eq_some_iff.1 (tO);rw[run_build w 55 _ cs h1];rw[show cs=#[I af 9,I af 0,I af 0,I af 0,aa,aa] from Array.toList_inj.1 h2]
theorem vo:(Program.built Tryz.prog 55 [(0,I af 11),(3,I af 1)]).map Array.toList=some [I af 11,I af 0,I af 0,I af 1,aa,aa]:=by kernel_rfl
theorem ul(w:World):(Instr.build 55 #[(0,I af 11),(3,I af 1)]).run Tryz.prog w=.ok (aE #[ag 11,ag 0,ag 0,ag 1,aa,aa]) w:=by
 obtain⟨cs,h1,h2⟩:=Option.map_eq_some_iff.1 (vo);rw[run_build w 55 _ cs h1];rw[show cs=#[I af 11,I af 0,I af 0,I af 1,aa,aa] from Array.toList_inj.1 h2]
theorem uY:(Program.built Tryz.prog 55 [(0,I af 8)]).map Array.toList=some [I af 8,I af 0,I af 0,I af 0,aa,aa]:=by kernel_rfl
theorem vg(w:World):(Instr.build 55 #[(0,I af 8)]).run Tryz.prog w=.ok (aE #[ag 8,ag 0,ag 0,ag 0,aa,aa]) w:=by
 obtain⟨cs,h1,h2⟩:=Option.map_eq_some_iff.1 (uY);rw[run_build w 55 _ cs h1];rw[show cs=#[I af 8,I af 0,I af 0,I af 0,aa,aa] from Array.toList_inj.1 h2]
theorem uc:(Program.built Tryz.prog 55 [(0,I af 16)]).map Array.toList=some [I af 16,I af 0,I af 0,I af 0,aa,aa]:=by kernel_rfl
theorem vl(w:World):(Instr.build 55 #[(0,I af 16)]).run Tryz.prog w=.ok (aE #[ag 16,ag 0,ag 0,ag 0,aa,aa]) w:=by
 obtain⟨cs,h1,h2⟩:=Option.map_eq_some_iff.1 (uc);rw[run_build w 55 _ cs h1];rw[show cs=#[I af 16,I af 0,I af 0,I af 0,aa,aa] from Array.toList_inj.1 h2]
theorem vt:(Program.built Tryz.prog 55 [(0,I af 6),(1,I af 0)]).map Array.toList=some [I af 6,I af 0,I af 0,I af 0,aa,aa]:=by kernel_rfl
theorem tT(w:World):(Instr.build 55 #[(0,I af 6),(1,I af 0)]).run Tryz.prog w=.ok (aE #[ag 6,ag 0,ag 0,ag 0,aa,aa]) w:=by
 obtain⟨cs,h1,h2⟩:=Option.map_eq_some_iff.1 (vt);rw[run_build w 55 _ cs h1];rw[show cs=#[I af 6,I af 0,I af 0,I af 0,aa,aa] from Array.toList_inj.1 h2]
theorem tE:(Program.built Tryz.prog 55 [(0,I af 17),(1,I af 0)]).map Array.toList=some [I af 17,I af 0,I af 0,I af 0,aa,aa]:=by kernel_rfl
theorem uA(w:World):(Instr.build 55 #[(0,I af 17),(1,I af 0)]).run Tryz.prog w=.ok (aE #[ag 17,ag 0,ag 0,ag 0,aa,aa]) w:=by
 obtain⟨cs,h1,h2⟩:=Option.map_eq_some_iff.1 (tE);rw[run_build w 55 _ cs h1];rw[show cs=#[I af 17,I af 0,I af 0,I af 0,aa,aa] from Array.toList_inj.1 h2]
theorem tG(eb:Nat):(Program.built Tryz.prog 55 [(0,I af 10),(3,I af 1),(4,Y (aj eb) 1 1)]).map Array.toList=some [I af 10,I af 0,I af 0,I af 1,Y (aj eb) 1 1,aa]:=by kernel_rfl
theorem uP(eb:Nat)(w:World):(Instr.build 55 #[(0,I af 10),(3,I af 1),(4,Y (aj eb) 1 1)]).run Tryz.prog w=.ok (dk 10 0 0 1 (aj eb) 1 1) w:=by
 obtain⟨cs,h1,h2⟩:=Option.map_eq_some_iff.1 (tG eb);rw[run_build w 55 _ cs h1];rw[show cs=#[I af 10,I af 0,I af 0,I af 1,Y (aj eb) 1 1,aa] from Array.toList_inj.1 h2]
theorem AR{w:World}{ob eb:Nat}(h:ai w ob 55 #[I af 13,I af 0,I af 1,I af 0,aa,aa,I af 9,I af 0,I af 0,I af 0,aa,aa,I af 10,I af 0,I af 0,I af 1,Y (aj eb) 1 1,aa,I af 11,I af 0,I af 0,I af 1,aa,aa,I af 8,I af 0,I af 0,I af 0,aa,aa,I af 8,I af 0,I af 0,I af 0,aa,aa,I af 8,I af 0,I af 0,I af 0,aa,aa,I af 16,I af 0,I af 0,I af 0,aa,aa,I af 6,I af 0,I af 0,I af 0,aa,aa,I af 17,I af 0,I af 0,I af 0,aa,aa]):∀i,i<10->∀j v,(nJ eb i).cells[j]? =some v->w.cell? ⟨ob,i*6+j,none⟩=some v:=by
 intro i hi j v hv;have hj:j<6:=by
  have:=(List.getElem?_eq_some_iff.1 hv).1;exact this
 rw[h.cell];obtain rfl | rfl | rfl | rfl | rfl | rfl | rfl | rfl | rfl | rfl:i=0\/i=1\/i=2\/i=3\/i=4\/i=5\/i=6\/i=7\/i=8\/i=9:=by omega
 all_goals (obtain rfl | rfl | rfl | rfl | rfl | rfl:j=0\/j=1\/j=2\/j=3\/j=4\/j=5:=by omega)
 all_goals exact hv
theorem ai.kW{w:World}{g:Nat}{t:TypeId}{cs:Array Value}(h:g=w.heap.size):ai (w.alloc (.cells cs t)) g t cs:=by
 rw[h];exact ai.made _ _ _
theorem SliceAt.qF{α:Type}{r:dD α}{w:World}{g:Nat}{t:TypeId}{us:List (List Value)}{l:List α}(h:ai w g t us.flatten.toArray)(h2:us.length=l.length)(a1:∀ (i:Nat) (u:List Value) (a:α),us[i]? =some u->l[i]? =some a->r.R w (λ_=>False) u a):SliceAt r w (λ_=>False) (aj g) l:=
 ⟨us,.inr ⟨g,0,rfl,h.lt,id,λj u hu=>by
  rw[Nat.zero_add,h.cell];simpa using hu⟩,h2,a1⟩
theorem mZ(w:World):Calls Tryz.prog 4 #[] w λe w'=>e=.returned (.bool true)/\Below w w w':=by
 have vi:=Ca 5 w;have aw:=λw=>yc w;have q0:=λw=>tM w;have q1:=λw=>tv w;have q3:=λw=>ul w;have q4:=λw=>vg w;have q7:=λw=>vl w;have q8:=λw=>tT w;have q9:=λw=>uA w;have q2:=λeb w=>uP eb w;go_enter Tryz.func4,Tryz.ntmps4;go_wp2_with fail;go_fit vi;clear vi;rintro e w1 ⟨rfl,b1⟩;obtain⟨eb,M⟩:=am w1.heap.size;obtain⟨w5,a8⟩:=am ((((w1.alloc (.cells #[.string ⟨#[112]⟩,ag 1,ag 5,str []] 60)).alloc (.cells #[I af 13,I af 0,I af 1,I af 0,Y none 0 0,Y none 0 0,I af 9,I af 0,I af 0,I af 0,Y none 0 0,Y none 0 0,I af 10,I af 0,I af 0,I af 1,Y (aj eb) 1 1,Y none 0 0,I af 11,I af 0,I af 0,I af 1,Y none 0 0,Y none 0 0,I af 8,I af 0,I af 0,I af 0,Y none 0 0,Y none 0 0,I af 8,I af 0,I af 0,I af 0,Y none 0 0,Y none 0 0,I af 8,I af 0,I af 0,I af 0,Y none 0 0,Y none 0 0,I af 16,I af 0,I af 0,I af 0,Y none 0 0,Y none 0 0,I af 6,I af 0,I af 0,I af 0,Y none 0 0,Y none 0 0,I af 17,I af 0,I af 0,I af 0,Y none 0 0,Y none 0 0] 55)).alloc (.cells #[ag (-1),ag 0] 3)).alloc (.cells #[ag 1] 3));have hE:ai w5 eb 60 #[.string ⟨#[112]⟩,ag 1,ag 5,str []]:=by rw[a8];exact(((ai.kW M).alloc _).alloc _).alloc _
 have hO:ai w5 (eb+1) 55 #[I af 13,I af 0,I af 1,I af 0,Y none 0 0,Y none 0 0,I af 9,I af 0,I af 0,I af 0,Y none 0 0,Y none 0 0,I af 10,I af 0,I af 0,I af 1,Y (aj eb) 1 1,Y none 0 0,I af 11,I af 0,I af 0,I af 1,Y none 0 0,Y none 0 0,I af 8,I af 0,I af 0,I af 0,Y none 0 0,Y none 0 0,I af 8,I af 0,I af 0,I af 0,Y none 0 0,Y none 0 0,I af 8,I af 0,I af 0,I af 0,Y none 0 0,Y none 0 0,I af 16,I af 0,I af 0,I af 0,Y none 0 0,Y none 0 0,I af 6,I af 0,I af 0,I af 0,Y none 0 0,Y none 0 0,I af 17,I af 0,I af 0,I af 0,Y none 0 0,Y none 0 0]:=by rw[a8];exact((ai.kW (by rw[M];simp)).alloc _).alloc _
 have ad:ai w5 (eb+1+1) 3 #[ag (-1),ag 0]:=by rw[a8];exact(ai.kW (by rw[M];simp)).alloc _
 have hH:ai w5 (eb+1+1+1) 3 #[ag 1]:=by rw[a8];exact ai.kW (by rw[M];simp)
 have bS:Below w1 w1 w5:=by rw[a8];exact((((Below.refl _ _).alloc (Nat.le_refl _) _).alloc (by simp) _).alloc (by simp;omega) _).alloc (by simp;omega) _
 have aB:SliceAt cy w5 (λ_=>False) (aj eb) ql:=SliceAt.qF (us:=[[.string ⟨#[112]⟩,I af 1,I af 5,str []]]) hE rfl (λi u a hu ha=>by
  have hi:i=0:=(by have:=(List.getElem?_eq_some_iff.1 hu).1;simp at this;exact this);subst hi;injection hu with hu;injection ha with ha;subst hu;subst ha;exact⟨rfl,by decide,by decide,by decide⟩)
 have ae:SliceAt b5 w5 (λ_=>False) (some ⟨eb+1+1+1,0,none⟩) [1]:=SliceAt.qF (us:=[[I af 1]]) hH rfl (λi u a hu ha=>by
  have hi:i=0:=(by have:=(List.getElem?_eq_some_iff.1 hu).1;simp at this;exact this);subst hi;injection hu with hu;injection ha with ha;subst hu;subst ha;rfl)
 have aa:Tr.c6 w5 w5 (some ⟨eb+1+1,0,none⟩) zA.n zA.p:=⟨by decide,by decide,λk k1 _=>k1,eb+1+1,0,rfl,ad.lt,ad.cell 0,λk k1 k2=>by
  obtain rfl:k=1:=(by have:k<2:=k2;omega);exact ad.cell 1⟩
 have rn:Calls Tryz.prog 17 #[Y (some ⟨eb+1+1,0,none⟩) 2 2,Y (some ⟨eb+1+1+1,0,none⟩) 1 1,ag 10000,Y (some ⟨eb+1,0,none⟩) 10 10] w5 _:=CA zA 10 (nJ eb) kA Bp g8 _ w5 (eb+1) (AX w5 (eb+1) eb (by omega) hE.lt aB) (by decide) (some ⟨eb+1+1,0,none⟩) (some ⟨eb+1+1+1,0,none⟩) 2 1 10 jz.ok (by decide) aa ae (by decide) (AR hO) hO.lt;have HB:=di b1 bS;have ah:=Lib.hid M;clear hE hO ad hH aB ae aa b1 bS M;go_wp2_with fail;rw[<-ah.out];rw[<-a8];clear a8;go_fit rn;clear rn;rintro e w6 ⟨A,c,rs,rfl,hlen,J,sl,b6⟩;obtain⟨b,off,u7,rfl,bV,_,_,aA,ao⟩:=sl.at_ (i:=7) (by omega) (by decide);obtain⟨b',aq,u8,e8,_,_,_,az,bH⟩:=sl.at_ (i:=8) (by omega) (by decide);obtain⟨ax,av,u9,e9,_,_,_,cb,au⟩:=sl.at_ (i:=9) (by omega) (by decide);injection e8 with e8;injection e8 with e8 ak;injection e9 with e9;injection e9 with e9 ar;subst e8 ak e9 ar;have ao:u7=rs[7].cells:=ao;have bH:u8=rs[8].cells:=bH;have au:u9=rs[9].cells:=au;rw[ao]at aA;rw[bH]at az;rw[au]at cb;have cg:=(J 7 (by omega)).1 rfl;have cP:=(J 8 (by omega)).2.1 rfl;have aS:=(J 9 (by omega)).2.2 rfl;have d7:w6.cell? ⟨b,off+7*9+5,none⟩=some (Y rs[7].A rs[7].n rs[7].c):=aA 5 _ rfl;have d8:w6.cell? ⟨b,off+8*9+0,none⟩=some (I af rs[8].e):=az 0 _ rfl;have d9:w6.cell? ⟨b,off+9*9+6,none⟩=some (I af rs[9].lo):=cb 6 _ rfl;have d10:w6.cell? ⟨b,off+9*9+8,none⟩=some (.bool rs[9].up):=cb 8 _ rfl;rw[cg]at d7;rw[cP]at d8;rw[aS.1]at d9;rw[aS.2]at d10;have H6:=Lib.hid b6;clear aA az cb ao bH au sl J cg cP aS b6;go_wp2_with fail;go_ret;exact⟨rfl,(HB.out.1.trans (HB.out.2.mono HB.out.1.size)).trans (H6.out.mono (Nat.le_trans HB.out.1.size HB.out.2.size))⟩
section
open Go.RowKit Go.ChangeShapes Go.WideShapes
instance :Inhabited aO:=⟨⟨[],⟨0,0,[]⟩⟩⟩
theorem four(l:List Value)(h:l.length=4):∃a b c d,l=[a,b,c,d]:=by
 match l,h with
 | [a,b,c,d],_=>exact⟨a,b,c,d,rfl⟩
section
variable {H:Type}{enc:TypeId×Value->H}{w:World}{base:Nat}{held:Bool}
theorem vf{n:Nat}{cs:List Value}{x:DataW H×List MemPlace}(h:DataW.trod enc Tryz.prog w base (λ_=>true) held n 60 cs=some x):∃a:aO,cs=a.cells/\a.fits:=by
 obtain⟨xs,m,rfl,_,hl,J,hf⟩:=DataW.trod_struct Tryz.underlying60 h;have I:Tryz.prog.cellsOf 60=4:=by kernel_rfl
 have Y:Tryz.prog.cellsOf 57=3:=by kernel_rfl
 have c9:Tryz.prog.cellsOf 9=1:=by kernel_rfl
 have c3:Tryz.prog.cellsOf 3=1:=by kernel_rfl
 have c2:Tryz.prog.cellsOf 2=1:=by kernel_rfl
 rw[I]at hl;have J:xs.length=2:=J;obtain⟨v0,v1,v2,v3,rfl⟩:=four cs hl;have h0:=hf 0 ⟨ "Name",9,0,false, "", "",0⟩ rfl;have h1:=hf 1 ⟨ "Value",57,1,false, "", "",16⟩ rfl;rw[List.getElem?_eq_getElem (by omega)]at h0 h1;dsimp only at h0 h1;rw[c9]at h0;rw[Y]at h1;obtain⟨s0,aB,_,z0⟩:=DataW.trod_string Tryz.underlying9 h0;obtain⟨ys,k,rfl,_,b9,M,hg⟩:=DataW.trod_struct Tryz.underlying57 h1;have M:ys.length=3:=M;have g0:=hg 0 ⟨ "Kind",3,0,false, "", "",0⟩ rfl;have g1:=hg 1 ⟨ "N",2,1,false, "", "",8⟩ rfl;have g2:=hg 2 ⟨ "S",9,2,false, "", "",16⟩ rfl;rw[List.getElem?_eq_getElem (by omega)]at g0 g1 g2;dsimp only at g0 g1 g2;rw[c3]at g0;rw[c2]at g1;rw[c9]at g2;obtain⟨n0,f0,_,w0⟩:=DataW.trod_int Tryz.underlying3 g0;obtain⟨n1,f1,_,w1⟩:=DataW.trod_int Tryz.underlying2 g1;obtain⟨s2,f2,_,z2⟩:=DataW.trod_string Tryz.underlying9 g2;have aB:[v0]=[Value.string s0]:=aB;have f0:[v1]=[Value.int .i64 n0]:=f0;have f1:[v2]=[Value.int .i64 n1]:=f1;have f2:[v3]=[Value.string s2]:=f2;simp only[List.cons.injEq,and_true]at aB f0 f1 f2;have b1:=bounds_i64 w1;refine⟨⟨s0.data.toList,⟨n0,n1,s2.data.toList⟩⟩,?_,?_,?_⟩
 ·rw[aB,f0,f1,f2];rfl
 ·have:s0.data.size=s0.size:=rfl;simp;unfold maxLen at z0;omega
 ·exact b1
theorem rM{t:Addr}{v:Value}(h:w.cell? (t.add 0)=some v):∃b off,t=⟨b,off,none⟩/\b<w.heap.size:=by
 obtain⟨b,off,spot⟩:=t;have hs:spot=none:=by simpa[Addr.add]using World.cell?_spot h
 subst hs;exact⟨b,off,rfl,by have:=World.block_lt_of_cell? w _ h;simpa[Addr.add]using this⟩
theorem sF{fuel:Nat}{cs:List Value}{x:DataW H×List MemPlace}(h:DataW.trod enc Tryz.prog w base (λ_=>true) held fuel 39 cs=some x):∃ (ev:List aO) (A:Option Addr) (c:Nat),cs=[Y A ev.length c]/\ev.length<=9223372036854775807/\SliceAt cy w (λ_=>False) A ev:=by
 rcases Go.Deep.open_slice Tryz.underlying39 h with⟨rfl,_⟩ | ⟨a,len,cap,m,n,D,J,rfl,_,hl,hm,aR,_,hi⟩
 ·exact⟨[],none,0,rfl,by simp,SliceAt.nil _ _ _ _⟩
 ·simp only[if_true]at aR;subst aR;have I:Tryz.prog.cellsOf 60=4:=(by kernel_rfl);rw[I]at hi;have key:∀i,i<len->∃y:aO,(∀j v,y.cells[j]? =some v->w.cell? (a.add (i*4+j))=some v)/\y.fits:=λi bu=>by
   obtain⟨cs,hc,aa⟩:=hi i (by omega);obtain⟨y,rfl,hf⟩:=vf aa;obtain⟨_,bc,ah⟩:=World.cells?_some hc;refine⟨y,λj v hv=>?_,hf⟩;have hj:j<4:=(List.getElem?_eq_some_iff.1 hv).1;have:=(ah j hj).trans hv
   rwa [Addr.add_add]at this
  obtain⟨F,hF⟩:=Go.Deep.choose_lt key;refine⟨(List.range len).map F,some a,m,by simp,by simp;unfold maxLen at hm;omega,?_⟩;refine⟨(List.range len).map λi=>(F i).cells,?_,by simp,λi u y hu hy=>?_⟩
  ·by_cases h0:len=0
   ·left;rw[h0];rfl
   ·obtain⟨b,off,rfl,a7⟩:=rM ((hF 0 (by omega)).1 0 _ rfl);refine .inr ⟨b,off,rfl,a7,id,λj u hu=>?_⟩;have hlen:∀u∈(List.range len).map (λi=>(F i).cells),u.length=4:=λu hu=>by
     obtain⟨i,_,rfl⟩:=List.mem_map.1 hu;rfl
    have hj:j<len*4:=by
     have:=(List.getElem?_eq_some_iff.1 hu).1;rw[cd _ hlen]at this;simpa using this
    have hq:j / 4<len:=(by omega);have e:=eh _ hlen (j / 4) (j % 4) (F (j / 4)).cells (by rw[List.getElem?_map,List.getElem?_range hq];rfl) (Nat.mod_lt _ (by omega));rw[show j / 4*4+j % 4=j by omega]at e;rw[e]at hu;have:=(hF (j / 4) hq).1 (j % 4) u hu;rw[show j / 4*4+j % 4=j by omega,Addr.add_lit]at this;exact this
  ·rw[List.getElem?_map]at hu hy;rcases hr:(List.range len)[i]? with _ | k
   ·rw[hr]at hu;cases hu
   ·rw[hr]at hu hy;injection hu with hu;injection hy with hy;have hk:k<len:=by
     have:=List.mem_of_getElem? hr;exact List.mem_range.1 this
    rw[<-hu,<-hy];exact⟨rfl,(hF k hk).2⟩
theorem qQ{a:Option Addr}{len cap:Nat}{d:DataW H}{p:List MemPlace}(h:DataW.Trod enc Tryz.prog w base (λ_=>true) held 23 (Y a len cap) d p):∃aX:List (List aO),len=aX.length/\len<=9223372036854775807/\SliceAt aN w (λ_=>False) a aX:=by
 obtain⟨fuel,hf⟩:=h;rcases Go.Deep.open_slice Tryz.underlying23 hf with⟨hcs,_⟩ | ⟨x,l,c,m,n,D,J,hcs,_,hl,hm,aR,_,hi⟩
 ·simp[Value.cells]at hcs;obtain⟨rfl,rfl,rfl⟩:=hcs;exact⟨[],rfl,by simp,SliceAt.nil _ _ _ _⟩
 ·simp[Value.cells]at hcs;obtain⟨rfl,rfl,rfl⟩:=hcs;simp only[if_true]at aR;subst aR;have I:Tryz.prog.cellsOf 39=1:=(by kernel_rfl);rw[I]at hi;have key:∀i,i<len->∃y:List aO,∃A c,w.cell? (x.add i)=some (Y A y.length c)/\SliceAt cy w (λ_=>False) A y:=λi bu=>by
   obtain⟨cs,hc,aa⟩:=hi i (by omega);obtain⟨y,A,c,rfl,hf,hs⟩:=sF aa;obtain⟨_,bc,ah⟩:=World.cells?_some hc;have:=ah 0 (by omega);rw[Addr.add_add]at this;simp only[Nat.mul_one,Nat.add_zero]at this;exact⟨y,A,c,this.trans rfl,hs⟩
  obtain⟨F,hF⟩:=Go.Deep.choose_lt key;refine⟨(List.range len).map F,by simp,by unfold maxLen at hm;omega,?_⟩;obtain⟨G,hG⟩:=Go.Deep.choose_lt (p:=λi (q:Option Addr×Nat)=>w.cell? (x.add i)=some (Y q.1 (F i).length q.2)/\SliceAt cy w (λ_=>False) q.1 (F i)) (λi hi=>by
   obtain⟨A,c,h⟩:=hF i hi;exact⟨(A,c),h⟩)
  refine⟨(List.range len).map λi=>[.slice (G i).1 (F i).length (G i).2],?_,by simp,λi u y hu hy=>?_⟩
  ·by_cases h0:len=0
   ·left;rw[h0];rfl
   ·obtain⟨b,off,rfl,a7⟩:=rM (hG 0 (by omega)).1;refine .inr ⟨b,off,rfl,a7,id,λj u hu=>?_⟩;have hlen:∀u∈(List.range len).map (λi=>[Value.slice (G i).1 (F i).length (G i).2]),u.length=1:=λu hu=>by
     obtain⟨i,_,rfl⟩:=List.mem_map.1 hu;rfl
    have hj:j<len:=by
     have:=(List.getElem?_eq_some_iff.1 hu).1;rw[cd _ hlen]at this;simpa using this
    have e:=eh _ hlen j 0 [Value.slice (G j).1 (F j).length (G j).2] (by rw[List.getElem?_map,List.getElem?_range hj];rfl) (by omega);rw[Nat.mul_one,Nat.add_zero]at e;rw[e]at hu;injection hu with hu;rw[<-hu];have:=(hG j hj).1
    rwa [Addr.add_lit]at this
  ·rw[List.getElem?_map]at hu hy;rcases hr:(List.range len)[i]? with _ | k
   ·rw[hr]at hu;cases hu
   ·rw[hr]at hu hy;injection hu with hu;injection hy with hy;have hk:k<len:=by
     have:=List.mem_of_getElem? hr;exact List.mem_range.1 this
    rw[<-hu,<-hy];exact⟨_,_,rfl,(hG k hk).2⟩
theorem xe{t e:TypeId}{a:Option Addr}{len cap:Nat}{d:DataW H}{p:List MemPlace}{P:Program}(ht:P.underlying t=some (.slice e))(he:P.underlying e=some (.int .i64))(hc:P.cellsOf e=1)
 (h:DataW.Trod enc P w base (λ_=>true) held t (Y a len cap) d p):∃f:Nat->Int,len<=cap/\cap<=9223372036854775807/\Tr.kH w w a len f:=by
 obtain⟨fuel,hf⟩:=h;rcases open_ints ht he hc hf with⟨hcs,_⟩ | ⟨x,l,c,zs,hcs,_,hl,hm,hz,_,hcell,I⟩
 ·simp[Value.cells]at hcs;obtain⟨rfl,rfl,rfl⟩:=hcs;exact⟨λ_=>0,Nat.le_refl _,by omega,.inl rfl⟩
 ·simp[Value.cells]at hcs;obtain⟨rfl,rfl,rfl⟩:=hcs;simp only[if_true]at hz;refine⟨λk=>zs.getD k 0,hl,by unfold maxLen at hm;omega,?_⟩;by_cases h0:len=0
  ·exact .inl h0
  ·obtain⟨b,off,spot⟩:=x;have h1:=hcell 0 (by omega);have hs:spot=none:=(by simpa[Addr.add]using World.cell?_spot h1);subst hs;have bA:b<w.heap.size:=by
    have:=World.block_lt_of_cell? w _ h1;simpa[Addr.add]using this
   refine .inr ⟨b,off,rfl,bA,λk hk=>?_⟩;have:=hcell k (by omega)
   rwa [Addr.add_lit]at this
end
end
end Go.Proofs.YtgblliofomgggaaGreat
