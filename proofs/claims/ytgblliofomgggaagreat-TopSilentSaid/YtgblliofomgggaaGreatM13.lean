import Derived.Test.YtgblliofomgggaaGreatM01
import Derived.Test.YtgblliofomgggaaGreatM12
import Derived.Test.YtgblliofomgggaaGreatM05
import Derived.Test.YtgblliofomgggaaGreatM11
namespace Go.Proofs.YtgblliofomgggaaGreat
set_option maxRecDepth 100000
set_option maxHeartbeats 4000000
open Go.RowKit a7 bA
open Go.IntKind renaming i64 -> af,u64 -> ak
open Go.Value renaming int -> I,slice -> Y,pointer -> aL,agg -> aE
section
def g9:List Value:=[I af 0,I ak 0,aa,aa,aa,aa,aa,aa]
theorem xY(k:Int):(Program.built Tryz.prog 233 [(0,I af k)]).map Array.toList=some [I af k,I ak 0,aa,aa,aa,aa,aa,aa]:=by kernel_rfl
theorem jw(k:Int)(w:World):(Instr.build 233 #[(0,I af k)]).run Tryz.prog w=.ok (aE #[ag k,av 0,aa,aa,aa,aa,aa,aa]) w:=by
 obtain⟨cs,h1,h2⟩:=Option.map_eq_some_iff.1 (xY k);rw[run_build w 233 _ cs h1];rw[show cs=#[I af k,I ak 0,aa,aa,aa,aa,aa,aa] from Array.toList_inj.1 h2]
theorem yo(q:Nat)(n:Int):(Program.built Tryz.prog 305 [(0,.pointer (aj q)),(1,I af n)]).map Array.toList=some [.pointer (aj q),I af n,.bool false]:=by kernel_rfl
theorem pG(q:Nat)(n:Int)(w:World):(Instr.build 305 #[(0,.pointer (aj q)),(1,I af n)]).run Tryz.prog w=.ok (aE #[aj q,ag n,.bool false]) w:=by
 obtain⟨cs,h1,h2⟩:=Option.map_eq_some_iff.1 (yo q n);rw[run_build w 305 _ cs h1];rw[show cs=#[.pointer (aj q),I af n,.bool false] from Array.toList_inj.1 h2]
structure DM (w:World) (T:Nat->Prop) (q mb long xb rb:Nat) (wr:World) (cs:List Value) (rest:List UInt8):Prop where
 ds:DS 233 g9 w T q xb rb wr cs rest
 m:ai wr mb 305 #[aj q,ag long,.bool false]
 mq:mb≠q
 mx:mb≠xb
 mr:mb≠rb
section
variable {w wr w':World}{T:Nat->Prop}{q mb long xb rb:Nat}{cs:List Value}{rest iP:List UInt8}
theorem DM.rw(h:DM w T q mb long xb rb wr cs rest):RW wr T mb q long rest:=⟨h.ds.rd,h.m,h.mq,h.ds.tq⟩
theorem DM.read(h:DM w T q mb long xb rb wr cs rest)(g:Goes (cC q) wr (cC q) w')(rd:cv w' T q iP):DM w T q mb long xb rb w' cs iP:=⟨h.ds.read g rd,h.m.goes g h.mq,h.mq,h.mx,h.mr⟩
theorem DM.lk(h:DM w T q mb long xb rb wr cs rest)(g:Goes (cC q) wr (cC q) w')(rd:RW w' T mb q long iP):DM w T q mb long xb rb w' cs iP:=h.read g rd.rd
theorem DM.below(h:DM w T q mb long xb rb wr cs rest)(g:Below wr wr w'):DM w T q mb long xb rb w' cs rest:=⟨h.ds.below g,h.m.below g h.m.lt,h.mq,h.mx,h.mr⟩
theorem DM.put(h:DM w T q mb long xb rb wr cs rest)(i:Nat)(u:Value):DM w T q mb long xb rb (wr.setCell ⟨xb,i,none⟩ u) (cs.set i u) rest:=⟨h.ds.put i u,h.m.dA h.mx u,h.mq,h.mx,h.mr⟩
end
theorem qi(A:Option Addr)(n c:Nat)(hv:Nat)(a5:List PId)(asks:List ae)(w:World)(cr:hv<18446744073709551616)(ah:a5.length<=16)(au:∀x∈a5,x.aH)(cD:asks.length<=16)(aK:∀x∈asks,x.aH)(aL:(Pk.az 1++(Pk.az hv++(cK bD a5++(cK a1 asks++[])))).length=n)(h:Src w A (aA (Pk.az 1++(Pk.az hv++(cK bD a5++(cK a1 asks++[])))))):
 Calls Tryz.prog 172 #[Y A n c] w λe w'=>∃a:fu,e=.returned (.tuple #[aE ((⟨1,hv,a5,asks,[],[]⟩:bc).cellsOf a).toArray,ag 0])/\cI w' (λb=>b<w.heap.size) ⟨1,hv,a5,asks,[],[]⟩ a/\Below w w w':=by
 have L0:=aG 0 (by omega);have L1:=aG hv cr;have L2:=aG 1 (by omega);have M0:=dQ (f:=bD) a5 16 40 (by omega) (λx hx=>ew (au x hx));have M1:=dQ (f:=a1) asks 16 14000 (by omega) (λx hx=>cq (aK x hx));have aO:n<=500000:=by rw[<-aL];simp only[List.length_append,List.length_nil];omega
 obtain⟨w0,ar⟩:=am (w.alloc (.cells #[ag 0,av 0,aa,aa,aa,aa,aa,aa] 233));have ay:ai w0 w 233 g9.toArray:=by rw[ar];exact ai.made _ _ _
 have aU:=aV ar;have new:=ek A n c _ w0 aL (h.below aU) (by omega) (λ_=>False) (λ_ h=>h.elim);obtain⟨rb,bh⟩:=am w.heap.size;rw[<-bh]at ay;have bn:=Lib.hid bh;have T0:(cK bD a5++(cK a1 asks++[]):List UInt8).length<=n:=by rw[<-aL];simp only[List.length_append,List.length_nil];omega
 have T1:(cK a1 asks++[]:List UInt8).length<=n:=by rw[<-aL];simp only[List.length_append,List.length_nil];omega
 have T2:([]:List UInt8).length<=n:=by rw[<-aL];simp only[List.length_append,List.length_nil];omega
 have bR:=λq w=>pG q n w;have ao:=λw=>jw 1 w;have HH:=fm cr au aK;have bT:=Lib.hid aL;clear h aL bh au aK;go_enter Tryz.func172,Tryz.ntmps172;go_wp2_with fail;rw[<-ar]
 try rw[<-bn.out]
 clear ar;refine new.mono ?_;clear new;rintro e w1 ⟨q,rfl,hq,ba,b1⟩;have bz:=ay.below b1 ay.lt;have ba:=ba.up (.inr rfl);have a6:=aU.trans (b1.mono aU.size);have bx:w.heap.size<=q:=Nat.le_trans aU.size hq;have bq:rb≠q:=by have:=ay.lt;omega
 have bQ:=ba.h5;obtain⟨w2,a8⟩:=am (w1.alloc (.cells #[aj q,ag n,.bool false] 305));have b2:=aV a8;have a9:ai w2 w1 305 #[aj q,ag n,.bool false]:=by rw[a8];exact ai.made _ _ _
 obtain⟨mb,b7⟩:=am w1.heap.size;rw[<-b7]at a9;have aw:=Lib.hid b7;have a4:mb≠rb:=by have:=bz.lt;omega
 have aT:RW w2 (λb=>b=q\/w1.heap.size<=b) mb q n _:=⟨ba.below b2,a9,by omega,.inl rfl⟩;have aZ:=hz _ mb q n 1 3 _ w2 aT (by omega) (by omega) (by rw[List.length_append];omega);have bN:=bz.below b2 bz.lt;have bo:=a6.trans (b2.mono a6.size);clear ao b7;go_wp2_with fail;rw[<-a8]
 try rw[<-aw.out]
 clear a8 bR;refine aZ.mono ?_;clear aZ;rintro e w3 ⟨rfl,aB,g3⟩;have b0:ai w3 rb 233 _:=bN.grown g3 (λe=>by injection e with e;omega);have br:Below w w w3:=bo.grown g3 bo.size (λk e=>by injection e with e;omega);have ao:=λw=>jw 1 w;obtain⟨w4,bd⟩:=am (w3.alloc (.cells #[ag 1,av 0,aa,aa,aa,aa,aa,aa] 233));have bK:=aV bd;have aD:ai w4 w3 233 #[ag 1,av 0,aa,aa,aa,aa,aa,aa]:=by rw[bd];exact ai.made _ _ _
 obtain⟨xb,a0⟩:=am w3.heap.size;rw[<-a0]at aD;have bj:=Lib.hid a0;have aQ:mb≠xb:=by have:=aB.mlt;omega
 have bB:w1.heap.size<=xb:=by have:=g3.size;have:=b2.size;omega
 have D4:DM w (λb=>b=q\/w1.heap.size<=b) q mb n xb rb w4 [ag 1,av 0,aa,aa,aa,aa,aa,aa] _:=
  ⟨⟨aB.rd.below bK,aD,b0.below bK b0.lt,br.trans (bK.mono br.size),by have:=aB.rd.h5;omega,bq,by have:=b0.lt;omega,bx,by have:=br.size;omega,.inr bB,.inl rfl⟩,aB.r.below bK aB.mlt,aB.ne,aQ,a4⟩
 have n4:=cM _ q hv _ w4 (.inl rfl) HH.out.1 D4.ds.rd (by omega);have m0:=aB.r.cell 0;have bP:=aB.mlt;simp at m0;clear a0 aB aD b0 aT bN bz ay ba;go_wp2_with fail;rw[<-bd]
 try rw[<-bj.out]
 clear bd ao m0 bP;refine n4.mono ?_;clear n4;rintro e w5 ⟨rfl,bJ,g5⟩;have D5:=D4.read (aJ g5 rfl) bJ;clear D4 bJ;have bg:=D5.ds.x.cell 1;have bV:=D5.ds.x.free 1;simp at bg;have z0:=D5.ds.x.cell 0;simp at z0;have D6:=D5.put 1 (av hv);simp only[List.set_cons_zero,List.set_cons_succ]at D6;obtain⟨w6,aY⟩:=am (w5.setCell ⟨xb,1,none⟩ (av hv));rw[<-aY]at D6;have y0:=si _ mb q n a5 _ w6 ah HH.out.2.1 D6.rw (by omega) (by omega) (by omega);go_wp2_with fail;rw[<-aY];clear aY bg bV z0;refine y0.mono ?_;clear y0;rintro e w7 ⟨v0,rfl,J,bM,cg⟩;obtain⟨V0,k0,q0,rfl,ax,aI⟩:=J.form;have D7:=D6.lk cg bM;have a2:=D7.ds.x.cell 2;have b5:=D7.ds.x.free 2;simp at a2;have D8:=D7.put 2 (Y V0 k0 q0);simp only[List.set_cons_zero,List.set_cons_succ]at D8;obtain⟨w8,aM⟩:=am (w7.setCell ⟨xb,2,none⟩ (Y V0 k0 q0));rw[<-aM]at D8;have aC:=dx (show(λb=>b<w6.heap.size) q from D6.ds.rd.h5) (show(λb=>b<w6.heap.size) xb from D6.ds.x.lt) (show(λb=>b<w6.heap.size) rb from D6.ds.r.lt) D6.ds.b.size;have J:=J.goes (bv (S:=(λb=>b<w6.heap.size)) (aR w7 xb 2 (Y V0 k0 q0)) (λk hk=>by injection hk with hk;subst hk;exact aC.out.2.1)) (λb a7=>by have:=(J.lt a7).1;omega);rw[<-aM]at J;clear D6 D7 bM;have y1:=ka _ mb q n asks _ w8 cD HH.out.2.2 D8.rw (by omega) (by omega) (by omega);go_wp2_with fail;rw[<-aM];clear aM a2 b5;refine y1.mono ?_;clear y1;rintro e w9 ⟨v1,rfl,O1,bL,aS⟩;obtain⟨V1,k1,q1,rfl,bp,bu⟩:=O1.form;have J:=J.read aS (by have:=D8.ds.hq;exact aC.out.1) (λb a7=>by have:=(J.lt a7).1;omega);have M:=D8.lk aS bL;have bG:=M.ds.x.cell 3;have bY:=M.ds.x.free 3;simp at bG;have m0:=M.m.cell 0;have m2:=M.m.cell 2;have bS:=M.mx;simp at m0 m2;have ad:=M.put 3 (Y V1 k1 q1);simp only[List.set_cons_zero,List.set_cons_succ]at ad;obtain⟨bs,bi⟩:=am (w9.setCell ⟨xb,3,none⟩ (Y V1 k1 q1));rw[<-bi]at ad;have bH:=dx (show(λb=>b<w8.heap.size) q from D8.ds.rd.h5) (show(λb=>b<w8.heap.size) xb from D8.ds.x.lt) (show(λb=>b<w8.heap.size) rb from D8.ds.r.lt) D8.ds.b.size;have J:=J.goes (bv (S:=(λb=>b<w6.heap.size)) (aR w9 xb 3 (Y V1 k1 q1)) (λk hk=>by injection hk with hk;subst hk;exact aC.out.2.1)) (λb a7=>by have:=(J.lt a7).1;omega);rw[<-bi]at J;have O1:=O1.goes (bv (S:=(λb=>b<w8.heap.size)) (aR w9 xb 3 (Y V1 k1 q1)) (λk hk=>by injection hk with hk;subst hk;exact bH.out.2.1)) (λb a7=>by have:=(O1.lt a7).1;omega);rw[<-bi]at O1;clear D8 M bL;have ck:=lU (λb=>b<w.heap.size) k0 k1 hv a5 asks ⟨V0,q0,V1,q1,none,0,none,0⟩ bs ax.out (by have:=ax.out;omega) (J.slice (λb a7=>by have:=aC.out.2.2.2;omega) (λb a7=>by have:=aC.out.2.2.2;omega)) HH.out.2.1 bp.out (by have:=bp.out;omega) (O1.slice (λb a7=>by have:=bH.out.2.2.2;omega) (λb a7=>by have:=bH.out.2.2.2;omega)) HH.out.2.2;have dn:=eE _ q bs ad.ds.rd;have x0:=ad.ds.x.cell 0;have x1:=ad.ds.x.cell 1;have x2:=ad.ds.x.cell 2;have x3:=ad.ds.x.cell 3;have x4:=ad.ds.x.cell 4;have x5:=ad.ds.x.cell 5;have x6:=ad.ds.x.cell 6;have x7:=ad.ds.x.cell 7;simp at x0 x1 x2 x3 x4 x5 x6 x7;go_wp2_with fail;rw[<-bi];clear bi bG bY;refine dn.mono ?_;clear dn;rintro e bF ⟨rfl,rfl⟩;go_wp2_with fail;refine ck.mono ?_;clear ck;rintro e bC ⟨rfl,aN⟩;have I:=ad.below aN;clear x0 x1 x2 x3 x4 x5 x6 x7 m0 m2;have J:=J.below aN;have O1:=O1.below aN;have x0:=I.ds.x.cell 0;have x1:=I.ds.x.cell 1;have x2:=I.ds.x.cell 2;have x3:=I.ds.x.cell 3;have x4:=I.ds.x.cell 4;have x5:=I.ds.x.cell 5;have x6:=I.ds.x.cell 6;have x7:=I.ds.x.cell 7;simp at x0 x1 x2 x3 x4 x5 x6 x7;have r0:=I.ds.r.cell 0;have r1:=I.ds.r.cell 1;have bf:=I.ds.r.cell 2;have r3:=I.ds.r.cell 3;have r4:=I.ds.r.cell 4;have r5:=I.ds.r.cell 5;have r6:=I.ds.r.cell 6;have r7:=I.ds.r.cell 7;have cj:=I.ds.r.free 0;have cf:=I.ds.r.free 1;have cd:=I.ds.r.free 2;have bW:=I.ds.r.free 3;have cb:=I.ds.r.free 4;have ce:=I.ds.r.free 5;have b6:=I.ds.r.free 6;have b4:=I.ds.r.free 7;simp[g9]at r0 r1 bf r3 r4 r5 r6 r7;have bX:=I.ds.xr;go_wp2_with fail;have RZ:=((((((((((((((((I.ds.r).put 0 (ag 1))).put 1 (av hv))).put 2 (Y V0 k0 q0))).put 3 (Y V1 k1 q1))).put 4 (aa))).put 5 (aa))).put 6 (aa))).put 7 (aa));simp only[g9,List.setIfInBounds_toArray,List.set_cons_zero,List.set_cons_succ]at RZ;have gz:=bl rb [ag 1,av hv,Y V0 k0 q0,Y V1 k1 q1,aa,aa,aa,aa] bC 0
 try rw[Exit.noGoto_ret]
 refine bodyPost_ret (bI rfl _ _ rb 233 _ (0,0) _ rfl RZ Tryz.underlying233 rfl (by kernel_rfl)) rfl ?_;have P0:=(J.goes (bv (S:=(λb=>b<w6.heap.size)) gz (λk hk=>by injection hk with hk;subst hk;exact aC.out.2.2.1)) (λb a7=>by have:=(J.lt a7).1;omega)).slice (S':=λb=>b<w.heap.size) (λb a7=>by have:=aC.out.2.2.2;omega) (λb a7=>by have:=aC.out.2.2.2;omega);have P1:=(O1.goes (bv (S:=(λb=>b<w8.heap.size)) gz (λk hk=>by injection hk with hk;subst hk;exact bH.out.2.2.1)) (λb a7=>by have:=(O1.lt a7).1;omega)).slice (S':=λb=>b<w.heap.size) (λb a7=>by have:=bH.out.2.2.2;omega) (λb a7=>by have:=bH.out.2.2.2;omega);refine⟨⟨V0,q0,V1,q1,none,0,none,0⟩,?_,?_,I.ds.b.grown gz I.ds.b.size (λk hk=>by injection hk with hk;have:=bn.out;omega)⟩
 ·unfold bc.cellsOf;rw[ax.out,bp.out];rfl
 ·exact⟨P0,P1,SliceAt.nil _ _ _ _,SliceAt.nil _ _ _ _⟩
theorem qM(A:Option Addr)(n c:Nat)(hv:Nat)(entries aK:List ae)(w:World)(cr:hv<18446744073709551616)(ct:entries.length<=16)(a3:∀x∈entries,x.aH)(bA:aK.length<=16)(au:∀x∈aK,x.aH)(aL:(Pk.az 2++(Pk.az hv++(cK a1 entries++(cK a1 aK++(Pk.az 0++(Pk.az 0++[])))))).length=n)(h:Src w A (aA (Pk.az 2++(Pk.az hv++(cK a1 entries++(cK a1 aK++(Pk.az 0++(Pk.az 0++[])))))))):
 Calls Tryz.prog 172 #[Y A n c] w λe w'=>∃a:fu,e=.returned (.tuple #[aE ((⟨2,hv,[],[],entries,aK⟩:bc).cellsOf a).toArray,ag 0])/\cI w' (λb=>b<w.heap.size) ⟨2,hv,[],[],entries,aK⟩ a/\Below w w w':=by
 have L0:=aG 0 (by omega);have L1:=aG hv cr;have L2:=aG 2 (by omega);have M0:=dQ (f:=a1) entries 16 14000 (by omega) (λx hx=>cq (a3 x hx));have M1:=dQ (f:=a1) aK 16 14000 (by omega) (λx hx=>cq (au x hx));have aO:n<=500000:=by rw[<-aL];simp only[List.length_append,List.length_nil];omega
 obtain⟨w0,ar⟩:=am (w.alloc (.cells #[ag 0,av 0,aa,aa,aa,aa,aa,aa] 233));have ay:ai w0 w 233 g9.toArray:=by rw[ar];exact ai.made _ _ _
 have aU:=aV ar;have new:=ek A n c _ w0 aL (h.below aU) (by omega) (λ_=>False) (λ_ h=>h.elim);obtain⟨rb,bh⟩:=am w.heap.size;rw[<-bh]at ay;have bn:=Lib.hid bh;have T0:(cK a1 entries++(cK a1 aK++(Pk.az 0++(Pk.az 0++[]))):List UInt8).length<=n:=by rw[<-aL];simp only[List.length_append,List.length_nil];omega
 have T1:(cK a1 aK++(Pk.az 0++(Pk.az 0++[])):List UInt8).length<=n:=by rw[<-aL];simp only[List.length_append,List.length_nil];omega
 have T2:(Pk.az 0++(Pk.az 0++[]):List UInt8).length<=n:=by rw[<-aL];simp only[List.length_append,List.length_nil];omega
 have T3:(Pk.az 0++[]:List UInt8).length<=n:=by rw[<-aL];simp only[List.length_append,List.length_nil];omega
 have T4:([]:List UInt8).length<=n:=by rw[<-aL];simp only[List.length_append,List.length_nil];omega
 have bR:=λq w=>pG q n w;have ao:=λw=>jw 2 w;have HH:=fm cr a3 au;have bT:=Lib.hid aL;clear h aL bh a3 au;go_enter Tryz.func172,Tryz.ntmps172;go_wp2_with fail;rw[<-ar]
 try rw[<-bn.out]
 clear ar;refine new.mono ?_;clear new;rintro e w1 ⟨q,rfl,hq,ba,b1⟩;have bz:=ay.below b1 ay.lt;have ba:=ba.up (.inr rfl);have a6:=aU.trans (b1.mono aU.size);have bx:w.heap.size<=q:=Nat.le_trans aU.size hq;have bq:rb≠q:=by have:=ay.lt;omega
 have bQ:=ba.h5;obtain⟨w2,a8⟩:=am (w1.alloc (.cells #[aj q,ag n,.bool false] 305));have b2:=aV a8;have a9:ai w2 w1 305 #[aj q,ag n,.bool false]:=by rw[a8];exact ai.made _ _ _
 obtain⟨mb,b7⟩:=am w1.heap.size;rw[<-b7]at a9;have aw:=Lib.hid b7;have a4:mb≠rb:=by have:=bz.lt;omega
 have aT:RW w2 (λb=>b=q\/w1.heap.size<=b) mb q n _:=⟨ba.below b2,a9,by omega,.inl rfl⟩;have aZ:=hz _ mb q n 2 3 _ w2 aT (by omega) (by omega) (by rw[List.length_append];omega);have bN:=bz.below b2 bz.lt;have bo:=a6.trans (b2.mono a6.size);clear ao b7;go_wp2_with fail;rw[<-a8]
 try rw[<-aw.out]
 clear a8 bR;refine aZ.mono ?_;clear aZ;rintro e w3 ⟨rfl,aB,g3⟩;have b0:ai w3 rb 233 _:=bN.grown g3 (λe=>by injection e with e;omega);have br:Below w w w3:=bo.grown g3 bo.size (λk e=>by injection e with e;omega);have ao:=λw=>jw 2 w;obtain⟨w4,bd⟩:=am (w3.alloc (.cells #[ag 2,av 0,aa,aa,aa,aa,aa,aa] 233));have bK:=aV bd;have aD:ai w4 w3 233 #[ag 2,av 0,aa,aa,aa,aa,aa,aa]:=by rw[bd];exact ai.made _ _ _
 obtain⟨xb,a0⟩:=am w3.heap.size;rw[<-a0]at aD;have bj:=Lib.hid a0;have aQ:mb≠xb:=by have:=aB.mlt;omega
 have bB:w1.heap.size<=xb:=by have:=g3.size;have:=b2.size;omega
 have D4:DM w (λb=>b=q\/w1.heap.size<=b) q mb n xb rb w4 [ag 2,av 0,aa,aa,aa,aa,aa,aa] _:=
  ⟨⟨aB.rd.below bK,aD,b0.below bK b0.lt,br.trans (bK.mono br.size),by have:=aB.rd.h5;omega,bq,by have:=b0.lt;omega,bx,by have:=br.size;omega,.inr bB,.inl rfl⟩,aB.r.below bK aB.mlt,aB.ne,aQ,a4⟩
 have n4:=cM _ q hv _ w4 (.inl rfl) HH.out.1 D4.ds.rd (by omega);have m0:=aB.r.cell 0;have bP:=aB.mlt;simp at m0;clear a0 aB aD b0 aT bN bz ay ba;go_wp2_with fail;rw[<-bd]
 try rw[<-bj.out]
 clear bd ao m0 bP;refine n4.mono ?_;clear n4;rintro e w5 ⟨rfl,bJ,g5⟩;have D5:=D4.read (aJ g5 rfl) bJ;clear D4 bJ;have bg:=D5.ds.x.cell 1;have bV:=D5.ds.x.free 1;simp at bg;have z0:=D5.ds.x.cell 0;simp at z0;have D6:=D5.put 1 (av hv);simp only[List.set_cons_zero,List.set_cons_succ]at D6;obtain⟨w6,aY⟩:=am (w5.setCell ⟨xb,1,none⟩ (av hv));rw[<-aY]at D6;have y0:=ka _ mb q n entries _ w6 ct HH.out.2.1 D6.rw (by omega) (by omega) (by omega);go_wp2_with fail;rw[<-aY];clear aY bg bV z0;refine y0.mono ?_;clear y0;rintro e w7 ⟨v0,rfl,J,bM,cg⟩;obtain⟨V0,k0,q0,rfl,ax,aI⟩:=J.form;have D7:=D6.lk cg bM;have bw:=D7.ds.x.cell 4;have b8:=D7.ds.x.free 4;simp at bw;have D8:=D7.put 4 (Y V0 k0 q0);simp only[List.set_cons_zero,List.set_cons_succ]at D8;obtain⟨w8,aM⟩:=am (w7.setCell ⟨xb,4,none⟩ (Y V0 k0 q0));rw[<-aM]at D8;have aC:=dx (show(λb=>b<w6.heap.size) q from D6.ds.rd.h5) (show(λb=>b<w6.heap.size) xb from D6.ds.x.lt) (show(λb=>b<w6.heap.size) rb from D6.ds.r.lt) D6.ds.b.size;have J:=J.goes (bv (S:=(λb=>b<w6.heap.size)) (aR w7 xb 4 (Y V0 k0 q0)) (λk hk=>by injection hk with hk;subst hk;exact aC.out.2.1)) (λb a7=>by have:=(J.lt a7).1;omega);rw[<-aM]at J;clear D6 D7 bM;have y1:=ka _ mb q n aK _ w8 bA HH.out.2.2 D8.rw (by omega) (by omega) (by omega);go_wp2_with fail;rw[<-aM];clear aM bw b8;refine y1.mono ?_;clear y1;rintro e w9 ⟨v1,rfl,O1,bL,aS⟩;obtain⟨V1,k1,q1,rfl,bp,bu⟩:=O1.form;have J:=J.read aS (by have:=D8.ds.hq;exact aC.out.1) (λb a7=>by have:=(J.lt a7).1;omega);have M:=D8.lk aS bL;have bO:=M.ds.x.cell 5;have ca:=M.ds.x.free 5;simp at bO;have ad:=M.put 5 (Y V1 k1 q1);simp only[List.set_cons_zero,List.set_cons_succ]at ad;obtain⟨bs,bi⟩:=am (w9.setCell ⟨xb,5,none⟩ (Y V1 k1 q1));rw[<-bi]at ad;have bH:=dx (show(λb=>b<w8.heap.size) q from D8.ds.rd.h5) (show(λb=>b<w8.heap.size) xb from D8.ds.x.lt) (show(λb=>b<w8.heap.size) rb from D8.ds.r.lt) D8.ds.b.size;have J:=J.goes (bv (S:=(λb=>b<w6.heap.size)) (aR w9 xb 5 (Y V1 k1 q1)) (λk hk=>by injection hk with hk;subst hk;exact aC.out.2.1)) (λb a7=>by have:=(J.lt a7).1;omega);rw[<-bi]at J;have O1:=O1.goes (bv (S:=(λb=>b<w8.heap.size)) (aR w9 xb 5 (Y V1 k1 q1)) (λk hk=>by injection hk with hk;subst hk;exact bH.out.2.1)) (λb a7=>by have:=(O1.lt a7).1;omega);rw[<-bi]at O1;clear D8 M bL;have y2:=ox _ mb q n _ bs ad.rw (by omega);go_wp2_with fail;rw[<-bi];clear bi bO ca;refine y2.mono ?_;clear y2;rintro e bD ⟨rfl,a2,bU⟩;have J:=J.read bU (by have:=ad.ds.hq;exact aC.out.1) (λb a7=>by have:=(J.lt a7).1;omega);have O1:=O1.read bU (by have:=ad.ds.hq;exact bH.out.1) (λb a7=>by have:=(O1.lt a7).1;omega);have aP:=ad.lk bU a2;have bk:=aP.ds.x.cell 6;have aW:=aP.ds.x.free 6;simp at bk;have bt:=aP.put 6 (aa);simp only[List.set_cons_zero,List.set_cons_succ]at bt;obtain⟨aF,bE⟩:=am (bD.setCell ⟨xb,6,none⟩ (aa));rw[<-bE]at bt;have J:=J.goes (bv (S:=(λb=>b<w6.heap.size)) (aR bD xb 6 (aa)) (λk hk=>by injection hk with hk;subst hk;exact aC.out.2.1)) (λb a7=>by have:=(J.lt a7).1;omega);rw[<-bE]at J;have O1:=O1.goes (bv (S:=(λb=>b<w8.heap.size)) (aR bD xb 6 (aa)) (λk hk=>by injection hk with hk;subst hk;exact bH.out.2.1)) (λb a7=>by have:=(O1.lt a7).1;omega);rw[<-bE]at O1;clear ad aP a2;have bb:=ox _ mb q n _ aF bt.rw (by omega);go_wp2_with fail;rw[<-bE];clear bE bk aW;refine bb.mono ?_;clear bb;rintro e a5 ⟨rfl,bG,ak⟩;have J:=J.read ak (by have:=bt.ds.hq;exact aC.out.1) (λb a7=>by have:=(J.lt a7).1;omega);have O1:=O1.read ak (by have:=bt.ds.hq;exact bH.out.1) (λb a7=>by have:=(O1.lt a7).1;omega);have aq:=bt.lk ak bG;have cl:=aq.ds.x.cell 7;have aX:=aq.ds.x.free 7;simp at cl;have m0:=aq.m.cell 0;have m2:=aq.m.cell 2;have bS:=aq.mx;simp at m0 m2;have af:=aq.put 7 (aa);simp only[List.set_cons_zero,List.set_cons_succ]at af;obtain⟨bm,ah⟩:=am (a5.setCell ⟨xb,7,none⟩ (aa));rw[<-ah]at af;have J:=J.goes (bv (S:=(λb=>b<w6.heap.size)) (aR a5 xb 7 (aa)) (λk hk=>by injection hk with hk;subst hk;exact aC.out.2.1)) (λb a7=>by have:=(J.lt a7).1;omega);rw[<-ah]at J;have O1:=O1.goes (bv (S:=(λb=>b<w8.heap.size)) (aR a5 xb 7 (aa)) (λk hk=>by injection hk with hk;subst hk;exact bH.out.2.1)) (λb a7=>by have:=(O1.lt a7).1;omega);rw[<-ah]at O1;clear bt aq bG;have ck:=mh (λb=>b<w.heap.size) k0 k1 hv entries aK ⟨none,0,none,0,V0,q0,V1,q1⟩ bm ax.out (by have:=ax.out;omega) (J.slice (λb a7=>by have:=aC.out.2.2.2;omega) (λb a7=>by have:=aC.out.2.2.2;omega)) HH.out.2.1 bp.out (by have:=bp.out;omega) (O1.slice (λb a7=>by have:=bH.out.2.2.2;omega) (λb a7=>by have:=bH.out.2.2.2;omega)) HH.out.2.2;have dn:=eE _ q bm af.ds.rd;have x0:=af.ds.x.cell 0;have x1:=af.ds.x.cell 1;have x2:=af.ds.x.cell 2;have x3:=af.ds.x.cell 3;have x4:=af.ds.x.cell 4;have x5:=af.ds.x.cell 5;have x6:=af.ds.x.cell 6;have x7:=af.ds.x.cell 7;simp at x0 x1 x2 x3 x4 x5 x6 x7;go_wp2_with fail;rw[<-ah];clear ah cl aX;refine dn.mono ?_;clear dn;rintro e bF ⟨rfl,rfl⟩;go_wp2_with fail;refine ck.mono ?_;clear ck;rintro e bC ⟨rfl,aN⟩;have I:=af.below aN;clear x0 x1 x2 x3 x4 x5 x6 x7 m0 m2;have J:=J.below aN;have O1:=O1.below aN;have x0:=I.ds.x.cell 0;have x1:=I.ds.x.cell 1;have x2:=I.ds.x.cell 2;have x3:=I.ds.x.cell 3;have x4:=I.ds.x.cell 4;have x5:=I.ds.x.cell 5;have x6:=I.ds.x.cell 6;have x7:=I.ds.x.cell 7;simp at x0 x1 x2 x3 x4 x5 x6 x7;have r0:=I.ds.r.cell 0;have r1:=I.ds.r.cell 1;have bf:=I.ds.r.cell 2;have r3:=I.ds.r.cell 3;have r4:=I.ds.r.cell 4;have r5:=I.ds.r.cell 5;have r6:=I.ds.r.cell 6;have r7:=I.ds.r.cell 7;have cj:=I.ds.r.free 0;have cf:=I.ds.r.free 1;have cd:=I.ds.r.free 2;have bW:=I.ds.r.free 3;have cb:=I.ds.r.free 4;have ce:=I.ds.r.free 5;have b6:=I.ds.r.free 6;have b4:=I.ds.r.free 7;simp[g9]at r0 r1 bf r3 r4 r5 r6 r7;have bX:=I.ds.xr;go_wp2_with fail;have RZ:=((((((((((((((((I.ds.r).put 0 (ag 2))).put 1 (av hv))).put 2 (aa))).put 3 (aa))).put 4 (Y V0 k0 q0))).put 5 (Y V1 k1 q1))).put 6 (aa))).put 7 (aa));simp only[g9,List.setIfInBounds_toArray,List.set_cons_zero,List.set_cons_succ]at RZ;have gz:=bl rb [ag 2,av hv,aa,aa,Y V0 k0 q0,Y V1 k1 q1,aa,aa] bC 0
 try rw[Exit.noGoto_ret]
 refine bodyPost_ret (bI rfl _ _ rb 233 _ (0,0) _ rfl RZ Tryz.underlying233 rfl (by kernel_rfl)) rfl ?_;have P0:=(J.goes (bv (S:=(λb=>b<w6.heap.size)) gz (λk hk=>by injection hk with hk;subst hk;exact aC.out.2.2.1)) (λb a7=>by have:=(J.lt a7).1;omega)).slice (S':=λb=>b<w.heap.size) (λb a7=>by have:=aC.out.2.2.2;omega) (λb a7=>by have:=aC.out.2.2.2;omega);have P1:=(O1.goes (bv (S:=(λb=>b<w8.heap.size)) gz (λk hk=>by injection hk with hk;subst hk;exact bH.out.2.2.1)) (λb a7=>by have:=(O1.lt a7).1;omega)).slice (S':=λb=>b<w.heap.size) (λb a7=>by have:=bH.out.2.2.2;omega) (λb a7=>by have:=bH.out.2.2.2;omega);refine⟨⟨none,0,none,0,V0,q0,V1,q1⟩,?_,?_,I.ds.b.grown gz I.ds.b.size (λk hk=>by injection hk with hk;have:=bn.out;omega)⟩
 ·unfold bc.cellsOf;rw[ax.out,bp.out];rfl
 ·exact⟨SliceAt.nil _ _ _ _,SliceAt.nil _ _ _ _,P0,P1⟩
end
theorem rP(S:Nat->Prop)(sb:Nat)(aq:Int)(AL AP:Option Addr)(nL cL nP cP:Nat)(l p:List ae)(id:PId)(w:World)(hs:ai w sb 49 (bT aq AL nL cL AP nP cP))(hL:SliceAt aB w S AL l)(bv:SliceAt aB w S AP p)(aL:nL=l.length)(hm:nL<=1000)(aO:nP=p.length)(a9:nP<=1000):
 Calls Tryz.prog 309 #[id.val,aj sb] w λe w'=>e=.returned (.bool (bd l id || bd p id))/\Below w w w':=by
 unfold PId.val;obtain⟨w0,ar⟩:=am (w.alloc (.cells (bY id) 32));have hC:ai w0 w 32 (bY id):=by rw[ar];exact ai.made _ _ _
 have aU:=aV ar;obtain⟨cb,M⟩:=am w.heap.size;rw[<-M]at hC;have aF:=Lib.hid M;clear M;have aC:=hs.below aU hs.lt;have I:=hs.lt;obtain⟨s0,s1,s2,s3⟩:=hs.c4;simp at s0 s1 s2 s3;have has:=g7 S aq AL nL cL l (Y AP nP cP) aa id w0 aL (by omega) (hL.below aU) ⟨_,_,_,rfl⟩ ⟨_,_,_,rfl⟩;have aW:=λw1 h=>hU S aq AP nP cP p (Y AL nL cL) aa id w1 aO (by omega) h ⟨_,_,_,rfl⟩ ⟨_,_,_,rfl⟩;unfold PId.val at has aW;have HH:=di (hL.below aU) (bv.below aU);clear hs hL bv aL aO;cases hh:bd l id with
 | true=>
  rw[hh]at has;clear hh aW;go_enter Tryz.func309,Tryz.ntmps309;go_wp2_with fail;rw[<-ar,<-aF.out];clear ar;refine has.mono ?_;clear has;rintro e w1 ⟨rfl,b1⟩;go_wp2;go_ret;exact⟨rfl,aU.trans (b1.mono aU.size)⟩
 | false=>
  rw[hh]at has;clear hh;go_enter Tryz.func309,Tryz.ntmps309;go_wp2_with fail;rw[<-ar,<-aF.out];clear ar;refine has.mono ?_;clear has;rintro e w1 ⟨rfl,b1⟩;have pm:=aW w1 (HH.out.2.below b1);have bQ:=aC.below b1 aC.lt;have ao:=hC.below b1 hC.lt;obtain⟨y0,y1,y2,bb⟩:=bQ.c4;simp at y0 y1 y2 bb;obtain⟨z0,z1,z2⟩:=ao.c3;simp at z0 z1 z2;have a6:=aU.trans (b1.mono aU.size);clear aW s0 s1 s2 s3;cases hp:bd p id with
  | true=>
   rw[hp]at pm;have av:=Lib.hid hp;clear hp;go_wp2_with fail;refine pm.mono ?_;clear pm;rintro e w2 ⟨rfl,b2⟩;go_wp2;go_ret;exact⟨by rw[av.out];rfl,a6.trans (b2.mono a6.size)⟩
  | false=>
   rw[hp]at pm;have av:=Lib.hid hp;clear hp;go_wp2_with fail;refine pm.mono ?_;clear pm;rintro e w2 ⟨rfl,b2⟩;have au:=bQ.below b2 bQ.lt;have aI:=ao.below b2 ao.lt;clear y0 y1 y2 bb z0 z1 z2;obtain⟨y0,y1,y2,bb⟩:=au.c4;simp at y0 y1 y2 bb;obtain⟨z0,z1,z2⟩:=aI.c3;simp at z0 z1 z2;have bo:=a6.trans (b2.mono a6.size);have bg:=fI aq (Y AL nL cL) (Y AP nP cP) id w2 ⟨_,_,_,rfl⟩ ⟨_,_,_,rfl⟩;unfold PId.val at bg;go_wp2_with fail;refine bg.mono ?_;clear bg;rintro e w3 ⟨rfl,b3⟩;go_wp2;go_ret;exact⟨by rw[av.out];rfl,bo.trans (b3.mono bo.size)⟩
def b6(list ps acc:List ae)(x:ae):List ae:=if (bd list x.id || bd ps x.id || bd acc x.id)=true then acc else acc++[x]
def dP(list ps l:List ae):List ae:=l.foldl (b6 list ps) []
theorem rQ(list ps l:List ae)(i:Nat)(h:i<l.length):dP list ps (l.take (i+1))=b6 list ps (dP list ps (l.take i)) l[i]:=by
 unfold dP;rw[List.take_succ_eq_append_getElem h,List.foldl_append];rfl
theorem pf(list ps:List ae):∀ (l acc:List ae),(l.foldl (b6 list ps) acc).length<=acc.length+l.length
 | [],acc=>by simp
 | x::l,acc=>by
  have h1:=pf list ps l (b6 list ps acc x);have h2:(b6 list ps acc x).length<=acc.length+1:=by
   unfold b6;split<;>simp
  rw[List.foldl_cons,List.length_cons];omega
theorem zd:Real 309:=bW Tryz.func309 (by kernel_rfl) (by kernel_rfl)
theorem qv(S S9:Nat->Prop)(aq:Int)(AL AP:Option Addr)(nL cL nP cP:Nat)(list ps:List ae)(A:Option Addr)(n c:Nat)(l:List ae)(w:World)(hL:SliceAt aB w S AL list)(bv:SliceAt aB w S AP ps)(bs:nL=list.length)(bk:nL<=1000)(bU:nP=ps.length)
 (aL:n=l.length) (hm:nP+n<=5) (h:SliceAt aB w S9 A l) (hg:∀x∈l,x.aH):
 Calls Tryz.prog 279 #[bT aq AL nL cL AP nP cP,Y A n c] w λe w'=>∃v,e=.returned (.tuple #[v,aa])/\aD aB 132 w' w (λb=>b<w.heap.size) v (dP list ps l)/\Below w w w':=by
 obtain⟨i0,z0,bM,bL,bB,bJ,bR⟩:=aS Tryz.dJ;obtain⟨fl,a1⟩:=am (dP list ps l);rw[<-a1];obtain⟨w0,ar⟩:=am (w.alloc (.cells (bT aq AL nL cL AP nP cP) 49));have hC:ai w0 w 49 (bT aq AL nL cL AP nP cP):=by rw[ar];exact ai.made _ _ _
 have aU:=aV ar;obtain⟨cb,M⟩:=am w.heap.size;rw[<-M]at hC;have aF:=Lib.hid M;clear M;have cS:=Lib.hid a1;have HN:=Lib.hid aL;have HG:=Lib.hid hg;have HS:=dx (hL.below aU) (bv.below aU) bs bU;have HH:=Lib.hid (h.below aU);have bZ:∀ (args:Array Value) (w:World),(callFunc 309 args).run Tryz.prog w=.ok (.enter 309 args) w:=zd;clear aL hg a1 hL bv bs bU h;go_enter Tryz.func279,Tryz.ntmps279;go_wp2_with fail;go_step3;go_wp2_with fail;rw[<-ar,<-aF.out];clear ar;go_step3;go_wp2_with fail
 go_loopw [6,7,14] (λv_ r_ i_ wr=>∃i:Nat,i_=I af i/\r_=aa/\i<=n/\aD aB 132 wr w0 (λb=>b<w0.heap.size) v_ (dP list ps (l.take i))/\Below w0 w0 wr) (λ_ _ i _=>n- (intOf i).toNat)
 case atStart=>exact⟨0,rfl,rfl,by omega,aD.nil _ _ _ _ _,.refl _ _⟩
 case round=>
  obtain⟨i,rfl,rfl,hi,O,a7⟩:=hrel;by_cases bA:i<n
  ·have bu:i<l.length:=(by have:=HN.out;omega);have bE:(i:Int)<(n:Int):=(by omega);have aX:=HG.out _ (List.getElem_mem bu);have a4:=Lib.hid (rQ list ps l i bu);obtain⟨b,off,u,rfl,bV,b8,bx,hcell,A2,c8,hu,h2⟩:=(HH.out.below a7).at_ bu (by decide);rw[hu]at hcell;have d0:wr.cell? ⟨b,off+i*8,none⟩=some (I af l[i].kind):=hcell 0 _ rfl;have d1:wr.cell? ⟨b,off+i*8+1,none⟩=some (I af l[i].id.au):=hcell 1 _ rfl;have d2:wr.cell? ⟨b,off+i*8+2,none⟩=some (I ak l[i].id.aq):=hcell 2 _ rfl;have d3:wr.cell? ⟨b,off+i*8+3,none⟩=some (I ak l[i].id.ax):=hcell 3 _ rfl;have d4:wr.cell? ⟨b,off+i*8+4,none⟩=some (I af l[i].ah):=hcell 4 _ rfl;have d5:wr.cell? ⟨b,off+i*8+5,none⟩=some (I ak l[i].sub):=hcell 5 _ rfl;have d7:wr.cell? ⟨b,off+i*8+7,none⟩=some (Y A2 l[i].events.length c8):=hcell 7 _ rfl;have d6:wr.cell? ⟨b,off+i*8+6,none⟩=some aa:=hcell 6 _ rfl;obtain⟨x,hx⟩:=am (l[i]);rw[<-hx]at d0 d1 d2 d3 d4 d5 d7 h2 a4 aX;obtain⟨o,ho⟩:=am (dP list ps (l.take i));have ad:o.length<=i:=by
    rw[ho];have:=pf list ps (l.take i) [];rw[List.length_take]at this;unfold dP;simp at this;omega
   rw[<-ho]at O a4;obtain⟨A3,n3,c3,rfl,a2,bY⟩:=O.form;have ag:n3<=i:=(by rw[a2.out];exact ad);have bH:=Lib.hid a2.out;obtain⟨w1,aN⟩:=am (wr.alloc (.cells (a3 x A2 c8) 132));have b1:=aV aN;have bD:ai w1 wr 132 (a3 x A2 c8):=(by rw[aN];exact ai.made _ _ _);obtain⟨xb,a0⟩:=am wr.heap.size;rw[<-a0]at bD;have bj:=Lib.hid a0;have a6:=a7.trans (b1.mono a7.size);have ao:=hC.below a6 hC.lt;have kn:=rP S cb aq AL AP nL cL nP cP list ps x.id w1 ao (HS.out.1.below a6) (HS.out.2.1.below a6) HS.out.2.2.1 bk HS.out.2.2.2 (by omega);unfold PId.val at kn;have O1:=O.below b1;have a8:=h2.below b1;clear hcell bx hu hx h2 a0 ho;cases hk:(bd list x.id || bd ps x.id)with
   | true=>
    rw[hk]at kn;have HE:Hid (dP list ps (l.take (i+1))=o):=by
     show _=_;rw[a4.out];unfold b6;rw[hk];rfl
    clear hk;go_wp2_with fail;rw[<-aN,<-bj.out];clear aN;refine kn.mono ?_;clear kn;rintro e w2 ⟨rfl,b2⟩;go_wp2
    go_round
    case rel=>exact⟨i+1,by go_num,rfl,by omega,by rw[HE.out];exact O1.below b2,a6.trans (b2.mono a6.size)⟩
    case measure=>simp[intOf];omega
   | false=>
    rw[hk]at kn;go_wp2_with fail;rw[<-aN,<-bj.out];clear aN;refine kn.mono ?_;clear kn;rintro e w2 ⟨rfl,b2⟩;have O2:=O1.below b2;have of:=q7 (λ_=>False) A3 n3 c3 o x.id w2 bH.out (by omega) (O2.slice (λ_ h=>h.elim) (λ_ h=>h.elim));unfold PId.val at of;have aA:=bD.below b2 bD.lt;obtain⟨y0,y1,y2,bb,y4,y5,y6,y7⟩:=aA.c8;simp at y0 y1 y2 bb y4 y5 y6 y7;have bo:=a6.trans (b2.mono a6.size);cases J:bd o x.id with
    | true=>
     rw[J]at of;have HE:Hid (dP list ps (l.take (i+1))=o):=by
      show _=_;rw[a4.out];unfold b6;rw[hk,J];rfl
     clear hk J;go_wp2_with fail;refine of.mono ?_;clear of;rintro e w3 ⟨rfl,b3⟩;go_wp2
     go_round
     case rel=>exact⟨i+1,by go_num,rfl,by omega,by rw[HE.out];exact O2.below b3,bo.trans (b3.mono bo.size)⟩
     case measure=>simp[intOf];omega
    | false=>
     rw[J]at of;have HE:Hid (dP list ps (l.take (i+1))=o++[x]):=by
      show _=_;rw[a4.out];unfold b6;rw[hk,J];rfl
     clear hk J;go_wp2_with fail;refine of.mono ?_;clear of;rintro e w3 ⟨rfl,b3⟩;have br:=bo.trans (b3.mono bo.size);have cn:=ee x.id w3;unfold PId.val at cn;have aT:=aA.below b3 aA.lt;clear y0 y1 y2 bb y4 y5 y6 y7;obtain⟨y0,y1,y2,bb,y4,y5,y6,y7⟩:=aT.c8;simp at y0 y1 y2 bb y4 y5 y6 y7;go_wp2_with fail;refine cn.mono ?_;clear cn;rintro e w4 ⟨rfl,bK⟩;have bp:=br.trans (bK.mono br.size);have aO:=aT.below bK aT.lt;have aW:=hC.below bp hC.lt;clear y0 y1 y2 bb y4 y5 y6 y7;obtain⟨y0,y1,y2,bb,y4,y5,y6,y7⟩:=aO.c8;simp at y0 y1 y2 bb y4 y5 y6 y7;have k2:=aW.cell 2;simp at k2;have g6:decide ((nP:Int)+(n3:Int)<6)=true:=decide_eq_true (by omega);have dv:=((a8.below b2).below b3).below bK;have wh:=rJ S9 x A2 c8 w4 dv aX.lays.1 aX.lays.2;unfold ae.cellsOf at wh;have O4:=(O2.below b3).below bK;go_wp2_with fail;refine wh.mono ?_;clear wh;rintro e w5 ⟨A4,c4,rfl,h4,bS⟩;have O5:=O4.below bS;have bC:=(Below.refl w5 w5).alloc (Nat.le_refl _) (.cells (a3 x A4 c4) 132);have bI:aB.R (w5.alloc (.cells (a3 x A4 c4) 132)) (bm (λb=>b<w0.heap.size) (Y A3 n3 c3)) (a3 x A4 c4) x:=
      ⟨A4,c4,rfl,(h4.below bC).weak (λb aG=>by
       rcases aG with aG | aG
       ·have:=bp.size;show b<w4.heap.size;omega
       ·exact(O4.lt aG).2)⟩
     go_wp2_with (at_builtin;refine a9 _ rfl (.tmp 41) (.tmp 44) 46 rfl aB w0 132 i0 z0 96 Tryz.underlying46 bM bL bJ bR bB (by decide) (λb=>b<w0.heap.size) (Y A3 n3 c3) o rfl (O5.below bC) (aj w5) 1 (a3 x A4 c4) x rfl (Src.made w5 _ _) bI (by rw[<-bH.out];unfold maxLen;omega) (by rw[<-bH.out];omega) (by simp;have:=bp.size;have:=bS.size;omega) ?_;rw[<-bH.out];intro A6 bX w6 O6 cz gr aZ);have aQ:∀k,(Value.slice A3 n3 c3).ownBlock=some k->w0.heap.size<=k:=λk hk=>(O.lt hk).1
     go_round
     case rel=>exact⟨i+1,by go_num,rfl,by omega,by rw[HE.out];exact O6,((bp.trans (bS.mono bp.size)).trans (bC.mono (Nat.le_trans bp.size bS.size))).grown gr (by simp;have:=bp.size;have:=bS.size;omega) aQ⟩
     case measure=>simp[intOf];omega
  ·obtain rfl:i=n:=(by omega);rw[HN.out,List.take_length,<-cS.out]at O;obtain⟨A3,n3,c3,rfl,a2,bY⟩:=O.form;go_wp2
   try rw[Exit.noGoto_ret]
   go_ret2;exact⟨_,rfl,(O.mono aU.size).weak (λb a7=>Nat.lt_of_lt_of_le a7 aU.size),aU.trans (a7.mono aU.size)⟩
theorem wA(S S2 S3:Nat->Prop)(aq:Int)(AL AP AW:Option Addr)(nL cL nP cP nW cW:Nat)(list ps waits:List ae)(m:bc)(a:fu)(w:World)(hL:SliceAt aB w S AL list)(bv:SliceAt aB w S AP ps)(bs:nL=list.length)(bk:nL<=1000)(bU:nP=ps.length)(aj:nP<=1000)
 (aC:nW=waits.length) (bl:nW<=1000) (aP:SliceAt aB w S2 AW waits) (hM:cI w S3 m a) (hv:m.a5.length<=1000) (J:∀v∈m.a5,(bd list v || bd ps v || bd waits v)=true):
 Calls Tryz.prog 226 #[bT aq AL nL cL AP nP cP,Y AW nW cW,aE (m.cellsOf a).toArray] w λe w'=>e=.returned aa/\Below w w w':=by
 unfold bc.cellsOf;obtain⟨n,aL⟩:=am m.a5.length;rw[<-aL];obtain⟨w0,ar⟩:=am ((w.alloc (.cells (bT aq AL nL cL AP nP cP) 49)).alloc (.cells #[ag m.kind,av m.bf,Y a.A1 n a.c1,Y a.A2 m.asks.length a.c2,Y a.A3 m.entries.length a.c3,Y a.A4 m.aK.length a.c4,aa,aa] 233));have aU:Below w w w0:=by rw[ar];exact((Below.refl _ _).alloc (Nat.le_refl _) _).alloc (by simp) _
 have hS:ai w0 w 49 (bT aq AL nL cL AP nP cP):=by rw[ar];exact(ai.made _ _ _).alloc _
 have hC:ai w0 (w.heap.size+1) 233 #[ag m.kind,av m.bf,Y a.A1 n a.c1,Y a.A2 m.asks.length a.c2,Y a.A3 m.entries.length a.c3,Y a.A4 m.aK.length a.c4,aa,aa]:=by
  rw[ar];have:=ai.made (w.alloc (.cells (bT aq AL nL cL AP nP cP) 49)) 233 #[ag m.kind,av m.bf,Y a.A1 n a.c1,Y a.A2 m.asks.length a.c2,Y a.A3 m.entries.length a.c3,Y a.A4 m.aK.length a.c4,aa,aa];simpa using this
 obtain⟨sb,aM⟩:=am w.heap.size;obtain⟨mb,b7⟩:=am (w.heap.size+1);rw[<-aM]at hS;rw[<-b7]at hC;have aF:=Lib.hid aM;have aw:=Lib.hid b7;have HN:=Lib.hid aL;have HA:=Lib.hid J;have HS:=lv (hL.below aU) (bv.below aU) (aP.below aU) bs bU aC;have HM:=Lib.hid (hM.a5.below aU);obtain⟨ba,c1,c2,c3,c4,c5,bX,c7⟩:=hC.c8;simp at ba c1 c2 c3 c4 c5 bX c7;clear aL J hL bv aP bs bU aC hM aM b7;go_enter Tryz.func226,Tryz.ntmps226;go_wp2_with fail;go_step3;go_wp2_with fail;rw[<-ar,<-aw.out,<-aF.out];clear ar
 try go_step3
 try go_wp2_with fail
 go_loopw [7,13] (λv_ i_ wr=>∃i:Nat,i_=I af i/\v_=aa/\i<=n/\Below w0 w0 wr) (λ_ i _=>n- (intOf i).toNat)
 case atStart=>exact⟨0,rfl,rfl,by omega,.refl _ _⟩
 case round=>
  obtain⟨i,rfl,rfl,hi,a7⟩:=hrel;by_cases bA:i<n
  ·have bu:i<m.a5.length:=(by have:=HN.out;omega);have bE:(i:Int)<(n:Int):=(by omega);have M:=HA.out _ (List.getElem_mem bu);obtain⟨b,off,u,aY,bV,b8,bx,hcell,hu⟩:=(HM.out.below a7).at_ bu (by decide);have aR:u=PId.gj m.a5[i] true:=hu;rw[aR]at hcell;have d0:wr.cell? ⟨b,off+i*4,none⟩=some (I af m.a5[i].au):=hcell 0 _ rfl;have d1:wr.cell? ⟨b,off+i*4+1,none⟩=some (I ak m.a5[i].aq):=hcell 1 _ rfl;have d2:wr.cell? ⟨b,off+i*4+2,none⟩=some (I ak m.a5[i].ax):=hcell 2 _ rfl;have d3:wr.cell? ⟨b,off+i*4+3,none⟩=some (.bool true):=hcell 3 _ rfl;obtain⟨x,hx⟩:=am (m.a5[i]);rw[<-hx]at d0 d1 d2 M;obtain⟨w1,aN⟩:=am (wr.alloc (.cells (dv x true) 285));have b1:=aV aN;have bD:ai w1 wr 285 (dv x true):=(by rw[aN];exact ai.made _ _ _);obtain⟨xb,a0⟩:=am wr.heap.size;rw[<-a0]at bD;have bj:=Lib.hid a0;have a6:=a7.trans (b1.mono a7.size);have cn:=ee x w1;unfold PId.val at cn;have ah:=Lib.hid aY;clear hcell bx hu hx aR a0;rw[aY];clear aY;go_wp2_with fail;rw[<-aN,<-bj.out];clear aN;refine cn.mono ?_;clear cn;rintro e w2 ⟨rfl,b2⟩;have bo:=a6.trans (b2.mono a6.size);have aA:=bD.below b2 bD.lt;have az:=hS.below bo hS.lt;obtain⟨y0,y1,y2,bb⟩:=aA.c4;simp at y0 y1 y2 bb;obtain⟨s0,s1,s2,s3⟩:=az.c4;simp at s0 s1 s2 s3;have has:=g7 S aq AL nL cL list (Y AP nP cP) aa x w2 HS.out.2.2.2.1 (by omega) (HS.out.1.below bo) ⟨_,_,_,rfl⟩ ⟨_,_,_,rfl⟩;unfold PId.val at has;cases hh:bd list x with
   | true=>
    rw[hh]at has;clear hh M;go_wp2_with fail;refine has.mono ?_;clear has;rintro e w3 ⟨rfl,b3⟩;go_wp2
    go_round
    case rel=>exact⟨i+1,by go_num,rfl,by omega,bo.trans (b3.mono bo.size)⟩
    case measure=>simp[intOf];omega
   | false=>
    rw[hh]at has M;clear hh;go_wp2_with fail;refine has.mono ?_;clear has;rintro e w3 ⟨rfl,b3⟩;have br:=bo.trans (b3.mono bo.size);have aT:=aA.below b3 aA.lt;have ad:=az.below b3 az.lt;clear y0 y1 y2 bb s0 s1 s2 s3;obtain⟨y0,y1,y2,bb⟩:=aT.c4;simp at y0 y1 y2 bb;obtain⟨s0,s1,s2,s3⟩:=ad.c4;simp at s0 s1 s2 s3;have aW:=hU S aq AP nP cP ps (Y AL nL cL) aa x w3 HS.out.2.2.2.2.1 (by omega) (HS.out.2.1.below br) ⟨_,_,_,rfl⟩ ⟨_,_,_,rfl⟩;unfold PId.val at aW;cases hp:bd ps x with
    | true=>
     rw[hp]at aW;clear hp M;go_wp2_with fail;refine aW.mono ?_;clear aW;rintro e w4 ⟨rfl,bK⟩;go_wp2
     go_round
     case rel=>exact⟨i+1,by go_num,rfl,by omega,br.trans (bK.mono br.size)⟩
     case measure=>simp[intOf];omega
    | false=>
     rw[hp]at aW M;clear hp;have cx:bd waits x=true:=(by simpa using M);go_wp2_with fail;refine aW.mono ?_;clear aW;rintro e w4 ⟨rfl,bK⟩;have bp:=br.trans (bK.mono br.size);have aO:=aT.below bK aT.lt;clear y0 y1 y2 bb s0 s1 s2 s3;obtain⟨y0,y1,y2,bb⟩:=aO.c4;simp at y0 y1 y2 bb;have of:=q7 S2 AW nW cW waits x w4 HS.out.2.2.2.2.2 (by omega) (HS.out.2.2.1.below bp);unfold PId.val at of;rw[cx]at of;clear cx M;go_wp2_with fail;refine of.mono ?_;clear of;rintro e w5 ⟨rfl,bS⟩;go_wp2
     go_round
     case rel=>exact⟨i+1,by go_num,rfl,by omega,bp.trans (bS.mono bp.size)⟩
     case measure=>simp[intOf];omega
  ·obtain rfl:i=n:=(by omega);go_wp2
   try rw[Exit.noGoto_ret]
   go_ret;exact⟨rfl,aU.trans (a7.mono aU.size)⟩
def bh(list:List ae)(s:List ae×List ae)(x:ae):List ae×List ae:=
 if (bd list x.id || bd s.1 x.id || bd s.2 x.id)=true then s
 else if x.kind=1 then(if s.1.length<4 then(s.1++[x],s.2)else s)else(s.1,s.2++[x])
def fe(list waits asks:List ae):List ae×List ae:=asks.foldl (bh list) (waits,[])
theorem tz(list waits l:List ae)(i:Nat)(h:i<l.length):fe list waits (l.take (i+1))=bh list (fe list waits (l.take i)) l[i]:=by
 unfold fe;rw[List.take_succ_eq_append_getElem h,List.foldl_append];rfl
theorem rX(list:List ae):∀ (l:List ae) (s:List ae×List ae),(l.foldl (bh list) s).1.length<=s.1.length+l.length/\(l.foldl (bh list) s).2.length<=s.2.length+l.length
 | [],s=>by simp
 | x::l,s=>by
  have h1:=rX list l (bh list s x);have h2:(bh list s x).1.length<=s.1.length+1/\(bh list s x).2.length<=s.2.length+1:=by
   unfold bh;split
   ·omega
   ·split
    ·split<;>simp
    ·simp
  rw[List.foldl_cons,List.length_cons];omega
theorem tY(S S2 S9:Nat->Prop)(aq:Int)(AL AW:Option Addr)(nL cL nW cW:Nat)(P:Value)(list waits:List ae)(A:Option Addr)(n c:Nat)(l:List ae)(w:World)(bv:∃A2 aZ c2,P=Y A2 aZ c2)(hL:SliceAt aB w S AL list)(bs:nL=list.length)(bk:nL<=1000)
 (aC:nW=waits.length) (bl:nW<=100) (aP:SliceAt aB w S2 AW waits) (aR:∀x∈waits,x.aH) (aL:n=l.length) (hm:n<=100) (h:SliceAt aB w S9 A l) (hg:∀x∈l,x.aH):
 Calls Tryz.prog 203 #[aE #[av aq,Y AL nL cL,P,aa],Y AW nW cW,Y A n c] w λe w'=>∃v1 v2,e=.returned (.tuple #[v1,v2])/\cu w' w (λb=>b<w.heap.size) v1 v2 (fe list waits l).1 (fe list waits l).2/\Below w w w':=by
 obtain⟨i0,z0,bM,bL,bB,bJ,bR⟩:=aS Tryz.dJ;obtain⟨PA,Pn,Pc,rfl⟩:=bv;obtain⟨fl,a1⟩:=am (fe list waits l);rw[<-a1];obtain⟨w0,ar⟩:=am (w.alloc (.cells (bT aq AL nL cL PA Pn Pc) 49));have hC:ai w0 w 49 (bT aq AL nL cL PA Pn Pc):=by rw[ar];exact ai.made _ _ _
 have aU:=aV ar;obtain⟨cb,M⟩:=am w.heap.size;rw[<-M]at hC;have aF:=Lib.hid M;clear M;have cp:=hW S2 AW nW cW waits w0 aC (by omega) (aP.below aU) aR;have cS:=Lib.hid a1;have HN:=Lib.hid aL;have HG:=Lib.hid hg;have HW:=Lib.hid aC;have HS:=di (hL.below aU) bs;have HH:=Lib.hid (h.below aU);clear aL hg a1 hL bs h aP aR aC;go_enter Tryz.func203,Tryz.ntmps203;go_wp2_with fail;go_step3;go_wp2_with fail;rw[<-ar,<-aF.out];clear ar;refine cp.mono ?_;clear cp;rintro e w1 ⟨v1,rfl,O1,b1⟩;have aQ:cu w1 w0 (λb=>b<w0.heap.size) v1 aa waits []:=⟨O1.wide (λb _ a7=>a7.elim id (λe=>by cases e)),aD.nil _ _ _ _ _,(λb _ e=>by cases e),(λb a7 e=>by have:=(O1.lt a7).1;have a5:b<w0.heap.size:=e;omega),(λb a7=>by cases a7)⟩;go_wp2_with fail;go_step3;go_wp2_with fail
 go_loopw [8,9,16] (λv_ r_ i_ wr=>∃ (i:Nat) (va vb:Value),i_=I af i/\v_=va/\r_=vb/\i<=n/\cu wr w0 (λb=>b<w0.heap.size) va vb (fe list waits (l.take i)).1 (fe list waits (l.take i)).2/\Below w0 w0 wr) (λ_ _ i _=>n- (intOf i).toNat)
 case atStart=>exact⟨0,v1,aa,rfl,rfl,rfl,by omega,aQ,b1⟩
 case round=>
  obtain⟨i,va,vb,rfl,rfl,rfl,hi,O,a7⟩:=hrel;by_cases bA:i<n
  ·have bu:i<l.length:=(by have:=HN.out;omega);have bE:(i:Int)<(n:Int):=(by omega);have aX:=HG.out _ (List.getElem_mem bu);have a4:=Lib.hid (tz list waits l i bu);obtain⟨b,off,u,rfl,bV,b8,bx,hcell,A2,c8,hu,h2⟩:=(HH.out.below a7).at_ bu (by decide);rw[hu]at hcell;have d0:wr.cell? ⟨b,off+i*8,none⟩=some (I af l[i].kind):=hcell 0 _ rfl;have d1:wr.cell? ⟨b,off+i*8+1,none⟩=some (I af l[i].id.au):=hcell 1 _ rfl;have d2:wr.cell? ⟨b,off+i*8+2,none⟩=some (I ak l[i].id.aq):=hcell 2 _ rfl;have d3:wr.cell? ⟨b,off+i*8+3,none⟩=some (I ak l[i].id.ax):=hcell 3 _ rfl;have d4:wr.cell? ⟨b,off+i*8+4,none⟩=some (I af l[i].ah):=hcell 4 _ rfl;have d5:wr.cell? ⟨b,off+i*8+5,none⟩=some (I ak l[i].sub):=hcell 5 _ rfl;have d7:wr.cell? ⟨b,off+i*8+7,none⟩=some (Y A2 l[i].events.length c8):=hcell 7 _ rfl;have d6:wr.cell? ⟨b,off+i*8+6,none⟩=some aa:=hcell 6 _ rfl;obtain⟨x,hx⟩:=am (l[i]);rw[<-hx]at d0 d1 d2 d3 d4 d5 d7 h2 a4 aX;obtain⟨st,aw⟩:=am (fe list waits (l.take i));have hle:st.1.length<=nW+i/\st.2.length<=i:=by
    rw[aw];have:=rX list (l.take i) (waits,[]);rw[List.length_take]at this;unfold fe;simp at this;have:=HW.out;omega
   rw[<-aw]at O a4;obtain⟨bc,o2⟩:=st;simp only at hle O;obtain⟨A3,n3,c3,rfl,a2,bY⟩:=O.L.form;obtain⟨A5,n5,c5,rfl,b7,cA⟩:=O.P.form;have ag:n3<=nW+i:=(by rw[a2.out];exact hle.1);have ba:n5<=i:=(by rw[b7.out];exact hle.2);have bH:=Lib.hid a2.out;have aK:=Lib.hid b7.out;obtain⟨w1,aN⟩:=am (wr.alloc (.cells (a3 x A2 c8) 132));have b1:=aV aN;have bD:ai w1 wr 132 (a3 x A2 c8):=(by rw[aN];exact ai.made _ _ _);obtain⟨xb,a0⟩:=am wr.heap.size;rw[<-a0]at bD;have bj:=Lib.hid a0;have a6:=a7.trans (b1.mono a7.size);have ao:=hC.below a6 hC.lt;have bq:=hC.below a7 hC.lt;have aY:=bq.lt;have has:=g7 S aq AL nL cL list (Y PA Pn Pc) aa x.id w1 HS.out.2 (by omega) (HS.out.1.below a6) ⟨_,_,_,rfl⟩ ⟨_,_,_,rfl⟩;unfold PId.val at has;have O1:=O.below b1;have a8:=h2.below b1;obtain⟨y0,y1,y2,bb,y4,y5,y6,y7⟩:=bD.c8;simp at y0 y1 y2 bb y4 y5 y6 y7;obtain⟨s0,s1,s2,s3⟩:=bq.c4;simp at s0 s1 s2 s3;clear hcell bx hu hx h2 a0 aw;cases hk:bd list x.id with
   | true=>
    rw[hk]at has;have HE:Hid (fe list waits (l.take (i+1))=(bc,o2)):=by
     show _=_;rw[a4.out];unfold bh;rw[hk];rfl
    clear hk;go_wp2_with fail;rw[<-aN,<-bj.out];clear aN;refine has.mono ?_;clear has;rintro e w2 ⟨rfl,b2⟩;go_wp2
    go_round
    case rel=>exact⟨i+1,_,_,by go_num,rfl,rfl,by omega,by rw[HE.out];exact O1.below b2,a6.trans (b2.mono a6.size)⟩
    case measure=>simp[intOf];omega
   | false=>
    rw[hk]at has;go_wp2_with fail;rw[<-aN,<-bj.out];clear aN;refine has.mono ?_;clear has;rintro e w2 ⟨rfl,b2⟩;have bo:=a6.trans (b2.mono a6.size);have aA:=bD.below b2 bD.lt;have aI:=ao.below b2 ao.lt;clear y0 y1 y2 bb y4 y5 y6 y7 s0 s1 s2 s3;obtain⟨y0,y1,y2,bb,y4,y5,y6,y7⟩:=aA.c8;simp at y0 y1 y2 bb y4 y5 y6 y7;obtain⟨s0,s1,s2,s3⟩:=aI.c4;simp at s0 s1 s2 s3;have bg:=fI aq (Y AL nL cL) (Y PA Pn Pc) x.id w2 ⟨_,_,_,rfl⟩ ⟨_,_,_,rfl⟩;unfold PId.val at bg;go_wp2_with fail;refine bg.mono ?_;clear bg;rintro e w3 ⟨rfl,b3⟩;have br:=bo.trans (b3.mono bo.size);have aT:=aA.below b3 aA.lt;clear y0 y1 y2 bb y4 y5 y6 y7 s0 s1 s2 s3;obtain⟨y0,y1,y2,bb,y4,y5,y6,y7⟩:=aT.c8;simp at y0 y1 y2 bb y4 y5 y6 y7;have O3:=(O1.below b2).below b3;have of:=o1 (λ_=>False) A3 n3 c3 bc x.id w3 bH.out (by omega) (O3.L.slice (λ_ h=>h.elim) (λ_ h=>h.elim));unfold PId.val at of;cases hq:bd bc x.id with
    | true=>
     rw[hq]at of;have HE:Hid (fe list waits (l.take (i+1))=(bc,o2)):=by
      show _=_;rw[a4.out];unfold bh;rw[hk,hq];rfl
     clear hk hq;go_wp2_with fail;refine of.mono ?_;clear of;rintro e w4 ⟨rfl,bK⟩;go_wp2
     go_round
     case rel=>exact⟨i+1,_,_,by go_num,rfl,rfl,by omega,by rw[HE.out];exact O3.below bK,br.trans (bK.mono br.size)⟩
     case measure=>simp[intOf];omega
    | false=>
     rw[hq]at of;go_wp2_with fail;refine of.mono ?_;clear of;rintro e w4 ⟨rfl,bK⟩;have bp:=br.trans (bK.mono br.size);have aO:=aT.below bK aT.lt;clear y0 y1 y2 bb y4 y5 y6 y7;obtain⟨y0,y1,y2,bb,y4,y5,y6,y7⟩:=aO.c8;simp at y0 y1 y2 bb y4 y5 y6 y7;have O4:=O3.below bK;have bi:=o1 (λ_=>False) A5 n5 c5 o2 x.id w4 aK.out (by omega) (O4.P.slice (λ_ h=>h.elim) (λ_ h=>h.elim));unfold PId.val at bi;cases hr:bd o2 x.id with
     | true=>
      rw[hr]at bi;have HE:Hid (fe list waits (l.take (i+1))=(bc,o2)):=by
       show _=_;rw[a4.out];unfold bh;rw[hk,hq,hr];rfl
      clear hk hq hr;go_wp2_with fail;refine bi.mono ?_;clear bi;rintro e w5 ⟨rfl,bS⟩;go_wp2
      go_round
      case rel=>exact⟨i+1,_,_,by go_num,rfl,rfl,by omega,by rw[HE.out];exact O4.below bS,bp.trans (bS.mono bp.size)⟩
      case measure=>simp[intOf];omega
     | false=>
      rw[hr]at bi;go_wp2_with fail;refine bi.mono ?_;clear bi;rintro e w6 ⟨rfl,b6⟩;have cN:=bp.trans (b6.mono bp.size);have bZ:=aO.below b6 aO.lt;clear y0 y1 y2 bb y4 y5 y6 y7;obtain⟨y0,y1,y2,bb,y4,y5,y6,y7⟩:=bZ.c8;simp at y0 y1 y2 bb y4 y5 y6 y7;have ad:=O4.below b6;have cR:=(((a8.below b2).below b3).below bK).below b6;have wh:=gT S9 x A2 c8 w6 cR aX.lays.1 aX.lays.2;unfold ae.cellsOf at wh;by_cases J:x.kind=1
      ·have gk:((x.kind:Int)==1)=true:=(by rw[beq_iff_eq];omega);have aW:((x.kind:Int) !=1)=false:=(by rw[bne_eq_false_iff_eq];omega);by_cases h4:n3<4
       ·have g4:decide ((n3:Int)<4)=true:=decide_eq_true (by omega);have HE:Hid (fe list waits (l.take (i+1))=(bc++[x],o2)):=by
         show _=_;rw[a4.out];unfold bh;rw[hk,hq,hr,if_neg (by decide),if_pos J,if_pos (by rw[<-bH.out];exact h4)]
        clear hk hq hr;have az:=Lib.hid J;clear J;go_wp2_with fail;refine wh.mono ?_;clear wh;rintro e w7 ⟨A4,c4,rfl,h4,bt⟩;have ay:=cN.trans (bt.mono cN.size);have bC:=(Below.refl w7 w7).alloc (Nat.le_refl _) (.cells (a3 x A4 c4) 132);have aJ:=(ad.below bt).below bC;have bI:aB.R (w7.alloc (.cells (a3 x A4 c4) 132)) (bm (λb=>b<w0.heap.size\/(Value.slice A5 n5 c5).ownBlock=some b) (Y A3 n3 c3)) (a3 x A4 c4) x:=
         ⟨A4,c4,rfl,(h4.below bC).weak (λb aG=>by
          show b<w6.heap.size;rcases aG with(aG | aG) | aG
          ·have:=cN.size;omega
          ·exact(ad.P.lt aG).2
          ·exact(ad.L.lt aG).2)⟩
        go_wp2_with (at_builtin;refine a9 _ rfl (.tmp 55) (.tmp 58) 46 rfl aB w0 132 i0 z0 96 Tryz.underlying46 bM bL bJ bR bB (by decide) (λb=>b<w0.heap.size\/(Value.slice A5 n5 c5).ownBlock=some b) (Y A3 n3 c3) bc rfl aJ.L (aj w7) 1 (a3 x A4 c4) x rfl (Src.made w7 _ _) bI (by rw[<-bH.out];unfold maxLen;omega) (by rw[<-bH.out];omega) (by simp;have:=ay.size;omega) ?_;rw[<-bH.out];intro A6 bX w8 O8 cz gr bf);have aM:=aJ.lB O8 gr bf (Nat.le_refl _) (λb a7=>by simp;have:=ay.size;omega);have bn:Below w0 w0 w8:=(ay.trans (bC.mono ay.size)).grown gr (by simp;have:=ay.size;omega) (λk hk=>(aJ.L.lt hk).1)
        go_round
        case rel=>exact⟨i+1,_,_,by go_num,rfl,rfl,by omega,by rw[HE.out];exact aM,bn⟩
        case measure=>simp[intOf];omega
       ·have g4:decide ((n3:Int)<4)=false:=decide_eq_false (by omega);have HE:Hid (fe list waits (l.take (i+1))=(bc,o2)):=by
         show _=_;rw[a4.out];unfold bh;rw[hk,hq,hr,if_neg (by decide),if_pos J,if_neg (by rw[<-bH.out];exact h4)]
        clear hk hq hr wh;have az:=Lib.hid J;clear J;go_wp2
        go_round
        case rel=>exact⟨i+1,_,_,by go_num,rfl,rfl,by omega,by rw[HE.out];exact ad,cN⟩
        case measure=>simp[intOf];omega
      ·have gk:((x.kind:Int)==1)=false:=(by rw[beq_eq_false_iff_ne];omega);have aW:((x.kind:Int) !=1)=true:=(by rw[bne_iff_ne];omega);have HE:Hid (fe list waits (l.take (i+1))=(bc,o2++[x])):=by
        show _=_;rw[a4.out];unfold bh;rw[hk,hq,hr,if_neg (by decide),if_neg J]
       clear hk hq hr;have az:=Lib.hid J;clear J;go_wp2_with fail;refine wh.mono ?_;clear wh;rintro e w7 ⟨A4,c4,rfl,h4,bt⟩;have ay:=cN.trans (bt.mono cN.size);have bC:=(Below.refl w7 w7).alloc (Nat.le_refl _) (.cells (a3 x A4 c4) 132);have aJ:=(ad.below bt).below bC;have bI:aB.R (w7.alloc (.cells (a3 x A4 c4) 132)) (bm (λb=>b<w0.heap.size\/(Value.slice A3 n3 c3).ownBlock=some b) (Y A5 n5 c5)) (a3 x A4 c4) x:=
        ⟨A4,c4,rfl,(h4.below bC).weak (λb aG=>by
         show b<w6.heap.size;rcases aG with(aG | aG) | aG
         ·have:=cN.size;omega
         ·exact(ad.L.lt aG).2
         ·exact(ad.P.lt aG).2)⟩
       go_wp2_with (at_builtin;refine a9 _ rfl (.tmp 46) (.tmp 49) 46 rfl aB w0 132 i0 z0 96 Tryz.underlying46 bM bL bJ bR bB (by decide) (λb=>b<w0.heap.size\/(Value.slice A3 n3 c3).ownBlock=some b) (Y A5 n5 c5) o2 rfl aJ.flip.L (aj w7) 1 (a3 x A4 c4) x rfl (Src.made w7 _ _) bI (by rw[<-aK.out];unfold maxLen;omega) (by rw[<-aK.out];omega) (by simp;have:=ay.size;omega) ?_;rw[<-aK.out];intro A6 bX w8 O8 cz gr bf);have aM:=(aJ.flip.lB O8 gr bf (Nat.le_refl _) (λb a7=>by simp;have:=ay.size;omega)).flip;have bn:Below w0 w0 w8:=(ay.trans (bC.mono ay.size)).grown gr (by simp;have:=ay.size;omega) (λk hk=>(aJ.flip.L.lt hk).1)
       go_round
       case rel=>exact⟨i+1,_,_,by go_num,rfl,rfl,by omega,by rw[HE.out];exact aM,bn⟩
       case measure=>simp[intOf];omega
  ·obtain rfl:i=n:=(by omega);rw[HN.out,List.take_length,<-cS.out]at O;obtain⟨A3,n3,c3,rfl,a2,bY⟩:=O.L.form;obtain⟨A5,n5,c5,rfl,b7,cA⟩:=O.P.form;go_wp2
   try rw[Exit.noGoto_ret]
   go_ret2;exact⟨_,_,rfl,(O.mono aU.size).wide (λb _ a7=>Nat.lt_of_lt_of_le a7 aU.size),aU.trans (a7.mono aU.size)⟩
def eU(l:List ae)(h:Nat):List ae:=(l.drop h).take 4
theorem x8(S:Nat->Prop)(A:Option Addr)(n c I:Nat)(l:List ae)(w:World)(aL:n=l.length)(hm:n<=1000)(aA:n<=c)(hs:SliceAt aB w S A l)(hg:∀x∈l,x.aH):
 Calls Tryz.prog 222 #[Y A n c,av I] w λe w'=>∃v,e=.returned v/\aD aB 132 w' w (λb=>b<w.heap.size) v (eU l I)/\Below w w w':=by
 have HN:=Lib.hid aL;have HG:=Lib.hid hg;have HS:=Lib.hid hs;by_cases bA:I<n
 ·have g1:decide ((I:Int)≥(n:Int))=false:=decide_eq_false (by omega);have hh:(I:Int)<=n:=(by omega);clear aL hg hs;by_cases h4:n-I<=4
  ·have J:((n-I:Nat):Int)<=4:=(by omega);have e:eU l I=(l.drop I).take (n-I):=by
    unfold eU;rw[List.take_of_length_le (by rw[List.length_drop];have:=HN.out;omega),List.take_of_length_le (by rw[List.length_drop];have:=HN.out;omega)]
   go_enter Tryz.func222,Tryz.ntmps222;go_wp2_with fail;obtain⟨A5,ay⟩:∃A5:Option Addr,A5=Option.map ((λx=>x) ∘ λx:Addr=>x.add (I*8)) A:=⟨_,rfl⟩;rw[<-ay];have hc:=hW S A5 (n-I) (c-I) (eU l I) w (by rw[e,List.length_take,List.length_drop];have:=HN.out;omega) (by omega) (by rw[e];exact HS.out.cut (by have:=HN.out;omega) A5 (λ_=>by rw[ay];rfl)) (λx hx=>HG.out x (List.mem_of_mem_drop (List.mem_of_mem_take hx)));clear ay e;refine hc.mono ?_;clear hc;rintro e w2 ⟨v,rfl,O,b⟩;go_wp2;go_ret;exact⟨v,rfl,O,b⟩
  ·have J:¬ ((n-I:Nat):Int)<=4:=(by omega);have bi:(4:Int)<=(c-I:Nat):=(by omega);go_enter Tryz.func222,Tryz.ntmps222;go_wp2_with fail;obtain⟨A5,ay⟩:∃A5:Option Addr,A5=Option.map ((λx=>x) ∘ λx:Addr=>x.add (I*8)) A:=⟨_,rfl⟩;rw[<-ay];have hc:=hW S A5 4 (c-I) (eU l I) w (by unfold eU;rw[List.length_take,List.length_drop];have:=HN.out;omega) (by omega) (by exact HS.out.cut (by have:=HN.out;omega) A5 (λ_=>by rw[ay];rfl)) (λx hx=>HG.out x (List.mem_of_mem_drop (List.mem_of_mem_take hx)));clear ay;refine hc.mono ?_;clear hc;rintro e w2 ⟨v,rfl,O,b⟩;go_wp2;go_ret;exact⟨v,rfl,O,b⟩
 ·have g1:decide ((I:Int)≥(n:Int))=true:=decide_eq_true (by omega);have e:eU l I=[]:=by
   unfold eU;rw[List.drop_eq_nil_of_le (by omega)];rfl
  rw[e];clear aL hg hs e;go_enter Tryz.func222,Tryz.ntmps222;go_wp2;go_ret;exact⟨_,rfl,aD.nil _ _ _ _ _,.refl _ _⟩
theorem wv(S:Nat->Prop)(A:Option Addr)(n c:Nat)(l:List ae)(w:World)(aL:n=l.length)(hm:n<=1000)(h:SliceAt aB w S A l):
 Calls Tryz.prog 224 #[aa,Y A n c] w λe w'=>e=.returned aa/\Below w w w':=by
 have HN:=Lib.hid aL;clear aL;go_enter Tryz.func224,Tryz.ntmps224;go_wp2_with fail
 try go_step3
 try go_wp2_with fail
 go_loopw [5,10] (λv_ i_ wr=>∃i:Nat,i_=I af i/\v_=aa/\i<=n/\Below w w wr) (λ_ i _=>n- (intOf i).toNat)
 case atStart=>exact⟨0,rfl,rfl,by omega,.refl _ _⟩
 case round=>
  obtain⟨i,rfl,rfl,hi,a7⟩:=hrel;by_cases bA:i<n
  ·have bu:i<l.length:=(by have:=HN.out;omega);have bE:(i:Int)<(n:Int):=(by omega);obtain⟨b,off,u,rfl,bV,b8,bx,hcell,A2,c8,hu,h2⟩:=(h.below a7).at_ bu (by decide);rw[hu]at hcell;have d0:wr.cell? ⟨b,off+i*8,none⟩=some (I af l[i].kind):=hcell 0 _ rfl;have d1:wr.cell? ⟨b,off+i*8+1,none⟩=some (I af l[i].id.au):=hcell 1 _ rfl;have d2:wr.cell? ⟨b,off+i*8+2,none⟩=some (I ak l[i].id.aq):=hcell 2 _ rfl;have d3:wr.cell? ⟨b,off+i*8+3,none⟩=some (I ak l[i].id.ax):=hcell 3 _ rfl;have d4:wr.cell? ⟨b,off+i*8+4,none⟩=some (I af l[i].ah):=hcell 4 _ rfl;have d5:wr.cell? ⟨b,off+i*8+5,none⟩=some (I ak l[i].sub):=hcell 5 _ rfl;have d7:wr.cell? ⟨b,off+i*8+7,none⟩=some (Y A2 l[i].events.length c8):=hcell 7 _ rfl;have d6:wr.cell? ⟨b,off+i*8+6,none⟩=some aa:=hcell 6 _ rfl;obtain⟨x,hx⟩:=am (l[i]);rw[<-hx]at d0 d1 d2 d3 d4 d5 d7 h2;obtain⟨w1,aN⟩:=am (wr.alloc (.cells (a3 x A2 c8) 132));have b1:=aV aN;have cn:=ee x.id w1;unfold PId.val at cn;clear hcell bx hu hx h2;go_wp2_with fail;rw[<-aN];clear aN;refine cn.mono ?_;clear cn;rintro e w2 ⟨rfl,b2⟩;go_wp2
   go_round
   case rel=>exact⟨i+1,by go_num,rfl,by omega,(a7.trans (b1.mono a7.size)).trans (b2.mono (a7.trans (b1.mono a7.size)).size)⟩
   case measure=>simp[intOf];omega
  ·obtain rfl:i=n:=(by omega);go_wp2
   try rw[Exit.noGoto_ret]
   go_ret;exact⟨rfl,a7⟩
theorem vZ{P:Prop}(h:P:=by
 go_simp;refine ad.out _ _ (k4 _ aD) (λJ=>?_);clear ad K;refine aP 4 (λK ad=>?_);clear J;refine dW _ rfl (.tmp 3) (.tmp 6) 46 rfl aB base 132 i0 z0 96 Tryz.underlying46 bM bL bJ bR bB (by decide) (λb=>S b\/u.ownBlock=some b) (Y AL nL cL) l (by rfl) bc.L (aj w3) 1 (a3 x A4 c4) x (by rfl) (Src.made w3 _ _) bI (by unfold maxLen;omega) (by omega) (by simp;have:=b3.size;have:=aU.size;have:=HH.out.2.2.2.2.2;omega) ?_;intro A6 bX w6 O6 cz gr aZ;have bh:∀k,(Value.slice AL nL cL).ownBlock=some k->¬S k:=HH.out.1.sL;have aF:=aD.grown gr (λe=>by have h1:=(HH.out.1.L.lt e.symm).2;have:=bj.out;omega);have a5:=a2.grown gr (λe=>bh bx e.symm HH.out.2.2.1);have x0:=a5.cell 0;have aG:=a5.free 0;simp at x0;refine ad.out _ _ (k4 _ aF) (λJ=>?_);clear ad K;refine aP 5 (λK ad=>?_);clear J;go_simp;refine ad.out _ _ (k4 _ (aF.dA (λe=>by have h1:xb=bx:=e;have:=bj.out;omega) _)) (λJ=>?_);clear ad K;refine cB ?_ _;obtain⟨w7,bf⟩:=am (w6.setCell (aj bx) (Y A6 (l.length+1) bX));have bz:ai w7 bx 46 #[Y A6 (l.length+1) bX]:=by rw[bf];simpa using a5.put 0 (Y A6 (l.length+1) bX)
 have bt:cu w7 base S (Y A6 (l.length+1) bX) u (l++[x]) m:=by rw[bf];exact(bc.lB O6 gr aZ (Nat.le_refl _) (λb a7=>by simp;have:=HH.out.2.2.2.1 b a7;have:=aU.size;have:=b3.size;omega)).put HH.out.2.2.1 0 _
 have t7:aw (λb=>b=bx\/(Value.slice AL nL cL).ownBlock=some b) w w7:=by
  have t1:aw (λb=>b=bx\/(Value.slice AL nL cL).ownBlock=some b) w (w3.alloc (.cells (a3 x A4 c4) 132)):=aw.ao (aU.trans ((b3.mono aU.size).trans (bC.mono (Nat.le_trans aU.size b3.size)))) _;rw[bf];exact(t1.trans (aw.bN gr (F:=λb=>b=bx\/(Value.slice AL nL cL).ownBlock=some b) (λb a7=>.inr a7)) (λ_ _ h=>h)).trans (aw.bN (aR w6 bx 0 _) (F:=λb=>b=bx\/(Value.slice AL nL cL).ownBlock=some b) (λb a7=>by injection a7 with a7;exact .inl a7.symm)) (λ_ _ h=>h)
 have bk:∀b,(Value.slice A6 (l.length+1) bX).ownBlock=some b->(Value.slice AL nL cL).ownBlock=some b\/w.heap.size<=b:=λb a7=>by
  rcases aZ with e | e
  ·exact .inl (e.symm.trans a7)
  ·rw[e]at a7;injection a7 with a7;have:=aU.size;have:=b3.size;simp at a7;exact .inr (by omega)
 rw[<-bf];clear bf;go_wp2
 go_end0
 exact⟨⟨_,rfl⟩,_,bz,bt,t7,bk⟩
 ):P:=h
theorem vA{P:Prop}(h:P:=by
 go_wp2_with fail;rw[<-ar,<-bj.out];clear ar;refine wp_region_held_drew (S:=λw'=>w'.cell? (aj xb)=some (I af x.kind)/\w'.cell? ⟨xb,1,none⟩=some (I af x.id.au)/\w'.cell? ⟨xb,2,none⟩=some (I ak x.id.aq)/\w'.cell? ⟨xb,3,none⟩=some (I ak x.id.ax)/\w'.cell? ⟨xb,4,none⟩=some (I af x.ah)/\w'.cell? ⟨xb,5,none⟩=some (I ak x.sub)/\w'.cell? ⟨xb,6,none⟩=some (aa)/\w'.cell? ⟨xb,7,none⟩=some (Y A x.events.length c)) (by kernel_rfl) (k4 _ HX.out.1) (λJ=>?_);refine tk 1 J ?_;refine wpAnyH_ready (rs:=[0,2]) (by kernel_rfl) (by simp) (AllReadyH.cons (by simp only[List.getElem?_toArray,List.getElem?_cons_zero];rfl) (λK ad=>?_) (AllReadyH.cons (by simp only[List.getElem?_toArray,List.getElem?_cons_succ,List.getElem?_cons_zero];rfl) (λK ad=>?_) AllReadyH.nil))
 ·clear J;go_simp;refine ad.out _ _ (k4 _ HX.out.1) (λJ=>?_);clear ad K;refine aP 2 (λK ad=>?_);clear J;go_simp;refine wh.mono ?_;clear wh;rintro e w3 ⟨A4,c4,rfl,h4,b3⟩;have b3:=a8 b3;have ay:=HX.out.1.below b3 HX.out.1.lt;have ag:=HX.out.2.below b3 HX.out.2.lt;have bC:=(Below.refl w3 w3).alloc (Nat.le_refl _) (.cells (a3 x A4 c4) 132);have aD:=ay.below bC ay.lt;have a2:=ag.below bC ag.lt;have bc:=(HH.out.2.1.below b3).below bC;have bI:aB.R (w3.alloc (.cells (a3 x A4 c4) 132)) (bm (λb=>S b\/u.ownBlock=some b) (Y AL nL cL)) (a3 x A4 c4) x:=
   ⟨A4,c4,rfl,(h4.below bC).weak (λb a7=>by
    show b<w0.heap.size;rcases a7 with(a7 | a7) | a7
    ·have:=HH.out.2.2.2.1 b a7;have:=aU.size;omega
    ·exact(HH.out.2.1.P.lt a7).2
    ·exact(HH.out.2.1.L.lt a7).2)⟩
  have aA:=ag.cell 0;simp at aA;have aC:=a2.cell 0;simp at aC
  try dsimp only
  refine ad.out _ _ (k4 _ ay) (λJ=>?_);clear ad K;refine aP 3 (λK ad=>?_);clear J;exact vZ
 ·clear J;go_simp;refine wh.mono ?_;clear wh;rintro e w3 ⟨A4,c4,rfl,h4,b3⟩;have b3:=a8 b3;have ay:=HX.out.1.below b3 HX.out.1.lt;have ag:=HX.out.2.below b3 HX.out.2.lt;have bC:=(Below.refl w3 w3).alloc (Nat.le_refl _) (.cells (a3 x A4 c4) 132);have aD:=ay.below bC ay.lt;have a2:=ag.below bC ag.lt;have bc:=(HH.out.2.1.below b3).below bC;have bI:aB.R (w3.alloc (.cells (a3 x A4 c4) 132)) (bm (λb=>S b\/u.ownBlock=some b) (Y AL nL cL)) (a3 x A4 c4) x:=
   ⟨A4,c4,rfl,(h4.below bC).weak (λb a7=>by
    show b<w0.heap.size;rcases a7 with(a7 | a7) | a7
    ·have:=HH.out.2.2.2.1 b a7;have:=aU.size;omega
    ·exact(HH.out.2.1.P.lt a7).2
    ·exact(HH.out.2.1.L.lt a7).2)⟩
  have aA:=ag.cell 0;simp at aA;have aC:=a2.cell 0;simp at aC
  try dsimp only
  refine ad.out _ _ (k4 _ ay) (λJ=>?_);clear ad K;refine wpAnyH_ready (rs:=[0,3]) (by kernel_rfl) (by simp) (AllReadyH.cons (by simp only[List.getElem?_toArray,List.getElem?_cons_zero];rfl) (λK ad=>?_) (AllReadyH.cons (by simp only[List.getElem?_toArray,List.getElem?_cons_succ,List.getElem?_cons_zero];rfl) (λK ad=>?_) AllReadyH.nil))
  focus
   clear J;go_simp;refine ad.out _ _ (k4 _ ay) (λJ=>?_);clear ad K;refine aP 3 (λK ad=>?_)
  rotate_left
  focus
   clear J;go_simp;refine ad.out _ _ (k4 _ aD) (λJ=>?_);clear ad K;refine aP 0 (λK ad=>?_)
  all_goals
   clear J;exact vZ
 ):P:=h
theorem yQ(bx base:Nat)(S S9:Nat->Prop)(v u:Value)(l m:List ae)(x:ae)(A:Option Addr)(c:Nat)(w:World)
 (hq:ai w bx 46 #[v]) (h:cu w base S v u l m) (hS:S bx) (az:∀b,S b->b<w.heap.size) (av:base<=w.heap.size)
 (hg:x.aH) (hx:SliceAt aN w S9 A x.events) (a9:l.length<=1000):
 Calls Tryz.prog 254 #[a3 x A c,aj bx] w λe w'=>(∃r,e=.returned r)/\∃v',ai w' bx 46 #[v']/\cu w' base S v' u (l++[x]) m/\aw (λb=>b=bx\/v.ownBlock=some b) w w'/\
  (∀b,v'.ownBlock=some b->v.ownBlock=some b\/w.heap.size<=b):=by
 obtain⟨i0,z0,bM,bL,bB,bJ,bR⟩:=aS Tryz.dJ;obtain⟨w0,ar⟩:=am (w.alloc (.cells (a3 x A c) 132));have M:ai w0 w 132 (a3 x A c):=by rw[ar];exact ai.made _ _ _
 have aU:=aV ar;obtain⟨xb,a0⟩:=am w.heap.size;rw[<-a0]at M;have bj:=Lib.hid a0;clear a0;obtain⟨AL,nL,cL,rfl,bs,ba⟩:=h.L.form;have bE:nL<=1000:=by have:=bs.out;omega
 have aI:=hq.below aU hq.lt;have h0:=h.below aU;have bb:=hx.below aU;have wh:=gT S9 x A c w0.drew bb.fX hg.lays.1 hg.lays.2;unfold ae.cellsOf at wh;have k4:∀W:World,ai W xb 132 (a3 x A c)->W.cell? (aj xb)=some (I af x.kind)/\W.cell? ⟨xb,1,none⟩=some (I af x.id.au)/\W.cell? ⟨xb,2,none⟩=some (I ak x.id.aq)/\W.cell? ⟨xb,3,none⟩=some (I ak x.id.ax)/\W.cell? ⟨xb,4,none⟩=some (I af x.ah)/\W.cell? ⟨xb,5,none⟩=some (I ak x.sub)/\W.cell? ⟨xb,6,none⟩=some (aa)/\W.cell? ⟨xb,7,none⟩=some (Y A x.events.length c):=λW h1=>⟨h1.cell 0,h1.cell 1,h1.cell 2,h1.cell 3,h1.cell 4,h1.cell 5,h1.cell 6,h1.cell 7⟩;have y0:=aI.cell 0;simp at y0;have HH:=lv h h0 hS az bb av;have HX:=di M aI;have aE:=hq.lt;clear hq h hS az hx hg M aI h0 bb;go_enter Tryz.func254,Tryz.ntmps254;exact vA
theorem zM(bx base:Nat)(S S9:Nat->Prop)(v u:Value)(l m:List ae)(x:ae)(A:Option Addr)(c:Nat)(w:World)
 (hq:ai w bx 46 #[v]) (h:cu w base S v u l m) (hS:S bx) (az:∀b,S b->b<w.heap.size) (av:base<=w.heap.size)
 (hg:x.aH) (hx:SliceAt aN w S9 A x.events) (a9:l.length<=1000):
 Calls Tryz.prog 255 #[a3 x A c,aj bx] w λe w'=>(∃r,e=.returned r)/\∃v',ai w' bx 46 #[v']/\cu w' base S v' u (l++[x]) m/\aw (λb=>b=bx\/v.ownBlock=some b) w w'/\
  (∀b,v'.ownBlock=some b->v.ownBlock=some b\/w.heap.size<=b):=by
 obtain⟨i0,z0,bM,bL,bB,bJ,bR⟩:=aS Tryz.dJ;obtain⟨w0,ar⟩:=am (w.alloc (.cells (a3 x A c) 132));have M:ai w0 w 132 (a3 x A c):=by rw[ar];exact ai.made _ _ _
 have aU:=aV ar;obtain⟨xb,a0⟩:=am w.heap.size;rw[<-a0]at M;have bj:=Lib.hid a0;clear a0;obtain⟨AL,nL,cL,rfl,bs,ba⟩:=h.L.form;have bE:nL<=1000:=by have:=bs.out;omega
 have aI:=hq.below aU hq.lt;have h0:=h.below aU;have bb:=hx.below aU;have wh:=gT S9 x A c w0.drew bb.fX hg.lays.1 hg.lays.2;unfold ae.cellsOf at wh;have k4:∀W:World,ai W xb 132 (a3 x A c)->W.cell? (aj xb)=some (I af x.kind)/\W.cell? ⟨xb,1,none⟩=some (I af x.id.au)/\W.cell? ⟨xb,2,none⟩=some (I ak x.id.aq)/\W.cell? ⟨xb,3,none⟩=some (I ak x.id.ax)/\W.cell? ⟨xb,4,none⟩=some (I af x.ah)/\W.cell? ⟨xb,5,none⟩=some (I ak x.sub)/\W.cell? ⟨xb,6,none⟩=some (aa)/\W.cell? ⟨xb,7,none⟩=some (Y A x.events.length c):=λW h1=>⟨h1.cell 0,h1.cell 1,h1.cell 2,h1.cell 3,h1.cell 4,h1.cell 5,h1.cell 6,h1.cell 7⟩;have y0:=aI.cell 0;simp at y0;have HH:=lv h h0 hS az bb av;have HX:=di M aI;have aE:=hq.lt;clear hq h hS az hx hg M aI h0 bb;go_enter Tryz.func255,Tryz.ntmps255;exact vA
end Go.Proofs.YtgblliofomgggaaGreat
