import Derived.Test.YtgblliofomgggaaGreatM01
import Derived.Test.YtgblliofomgggaaGreatM22
import Derived.Test.YtgblliofomgggaaGreatM05
namespace Go.Proofs.YtgblliofomgggaaGreat
set_option maxRecDepth 100000
set_option maxHeartbeats 8000000
open Go.RowKit a7 bA
open Go.IntKind renaming i64 -> af,u64 -> ak
open Go.Value renaming int -> I,slice -> Y,pointer -> aL,agg -> aE
def k6(A0 A1:Option Addr)(n m0 h m1 mb cb gb:Nat)(v:Value):List Value:=
 [Y A0 n m0,Y A1 h m1,.pointer none,v,.map (some mb),Y (aj cb) h h,Y (aj gb) h h]
structure vc (w6 wr:World) (room wb k:Nat) (cs:Value->List Value) (v:Value) (q:Nat->Nat):Prop where
 aW:ai wr wb 73 (cs v).toArray
 row:aD hO 74 wr w6 (λb=>b<w6.heap.size) v ((List.range k).map q)
 eN:∀i,i<k->(w6.heap.size<=q i/\q i<wr.heap.size)/\Dk.cY wr (q i) 0 none [] 0 room
 apart:∀i j,i<k->j<k->i≠j->q i≠q j
 ba:aw (λb=>b=wb) w6 wr
theorem vc.next{w6 wr Y w2:World}{room wb k:Nat}{cs:Value->List Value}{v v':Value}{q:Nat->Nat}(h:vc w6 wr room wb k cs v q)(eY:wb<w6.heap.size)(hcs:∀v v',(cs v).toArray.setIfInBounds 3 v'=(cs v').toArray)
 (bC:Below wr wr Y) (hd:Dk.cY Y wr 0 none [] 0 room) (hl:wr.heap.size<Y.heap.size) (M:aD hO 74 w2 w6 (λb=>b<w6.heap.size) v' ((List.range k).map q++[wr.heap.size])) (gr:Y.grownBy w2 v.ownBlock):
 vc w6 (w2.setCell ⟨wb,3,none⟩ v') room wb (k+1) cs v' (upd q k wr):=by
 have s6:=h.ba.size;have aQ:∀b,v.ownBlock=some b->w6.heap.size<=b/\b<wr.heap.size:=λb a7=>h.row.lt a7;have tg:aw (λb=>v.ownBlock=some b) Y w2:=aw.bN gr (λb a7=>a7);have ts:aw (λb=>b=wb) w2 (w2.setCell ⟨wb,3,none⟩ v'):=⟨rfl,rfl,rfl,by simp,λb a7 aL=>Below.heap_setCell w2 _ v' b (λe=>aL e)⟩;have J:aw (λb=>b=wb\/v.ownBlock=some b) Y (w2.setCell ⟨wb,3,none⟩ v'):=(tg.wide (λ_ _ e=>.inr e)).trans ts (λ_ _ e=>.inl e);have I:aw (λb=>b=wb\/v.ownBlock=some b) wr (w2.setCell ⟨wb,3,none⟩ v'):=(aw.ao bC _).trans J (λ_ _ e=>e);have bq:ai w2 wb 73 (cs v).toArray:=(h.aW.below bC h.aW.lt).grown gr (λe=>by have:=(aQ wb e.symm).1;omega);have bW:=bq.put 3 v';rw[hcs]at bW;have hq:∀i,i<k+1->upd q k wr i=if i=k then wr.heap.size else q i:=λi _=>rfl;refine⟨bW,?_,λi hi=>?_,λi j hi hj ay=>?_,h.ba.trans (I.wide (G:=λb=>b=wb\/v.ownBlock=some b) (λ_ _ e=>e)) (λb a7 e=>e.elim id (λe=>by have:=(aQ b e).1;omega))⟩
 ·have e:(List.range (k+1)).map (upd q k wr)=(List.range k).map q++[wr.heap.size]:=by
   rw[List.range_succ,List.map_append];congr 1
   ·exact List.map_congr_left λi hi=>by rw[hq i (by have:=List.mem_range.1 hi;omega),if_neg (by have:=List.mem_range.1 hi;omega)]
   ·simp[hq k (by omega)]
  rw[e];exact M.dA (aR w2 wb 3 v') (λe=>by have:=(M.lt e).1;omega) eY
 ·rw[hq i hi];split
  ·exact⟨⟨s6,by have:=J.size;omega⟩,iA hd J (λe=>e.elim (λe=>by omega) (λe=>by have:=(aQ _ e).2;omega))⟩
  ·obtain⟨h1,h2⟩:=h.eN i (by omega);refine⟨⟨h1.1,by have:=I.size;omega⟩,iA h2 I (λe=>e.elim (λe=>by omega) (λe=>?_))⟩;obtain⟨A,c,_,a7,_⟩:=h2;exact h.row.ne (g:=q i) (t:=114) a7 (by decide) e
 ·rw[hq i hi,hq j hj];split
  ·rename_i e;rw[if_neg (λa5=>ay (e.trans a5.symm))];have:=(h.eN j (by omega)).1.2;omega
  ·split
   ·have:=(h.eN i (by omega)).1.2;omega
   ·exact h.apart i j (by omega) (by omega) ay
theorem vc.done{w w6 wr:World}{zz:aM}{wb m0 m1 mb cb gb cD nD:Nat}{A0 A1 AD:Option Addr}{q:Nat->Nat}(h:vc w6 wr zz.room wb zz.n (k6 A0 A1 zz.n m0 zz.homes.length m1 mb cb gb) (Y AD nD cD) q)
 (ae:∀i,i<zz.n->(zz.at_ i).ok) (n6:zz.n<=6/\1<=zz.n) (hg:Tr.Good zz.p zz.n)
 (r0:w6.ownsRow w 3 1 (Y A0 zz.n m0) zz.n (df (ga zz.n zz.p))) (r1:w6.ownsRow w 3 1 (Y A1 zz.homes.length m1) zz.homes.length (df (zz.homes.map λk:Nat=>(k:Int))))
 (hm:w6.heap[mb]? =some (.map #[] 0)) (hc:ai w6 cb 3 (List.replicate zz.homes.length (Value.int .i64 0)).toArray) (J:ai w6 gb 90 (List.replicate zz.homes.length aa).toArray)
 (eY:wb<w6.heap.size) (lo:w.heap.size<=wb/\w.heap.size<=mb/\w.heap.size<=cb/\w.heap.size<=gb) (ne:wb≠mb/\wb≠cb/\wb≠gb)
 (af:∀b,(Value.slice A0 zz.n m0).ownBlock=some b->b≠wb/\b≠mb/\b≠cb/\b≠gb) (ad:∀b,(Value.slice A1 zz.homes.length m1).ownBlock=some b->b≠wb/\b≠mb/\b≠cb/\b≠gb):
 ∃a:WA,jV wr zz w 0 a q/\a.wb=wb:=by
 have s6:=h.ba.size;have b7:mb<w6.heap.size:=(Array.getElem?_eq_some_iff.1 hm).1;obtain⟨a,ha⟩:∃a:WA,a=⟨wb,0,0,mb,cb,gb,A0,m0,A1,m1,AD,cD,[],λ_=>⟨0,0,0,⟨0,0,none,none⟩⟩,λi b=>b=q i⟩:=⟨_,rfl⟩;have aF:nD=zz.n:=by
  obtain⟨A',n',c',e,aL,_⟩:=h.row.form;injection e with _ e _;rw[e,aL.out,List.length_map,List.length_range]
 subst aF;have h3:∀b,a.h3 zz.n b->(b=wb\/b=mb\/b=cb\/b=gb)\/(w6.heap.size<=b/\b<wr.heap.size/\∃i,i<zz.n/\b=q i):=by
  rintro b (⟨i,hi,a7⟩ | a7)
  ·rw[ha]at a7;have a7:b=q i:=a7;have:=(h.eN i hi).1;exact .inr ⟨by omega,by omega,i,hi,a7⟩
  ·rw[ha]at a7;exact .inl a7
 have t:=h.ba;have ag:=cS r0 (⟨t.os,t.tape,t.output,t.size,t.aI,λ_ _ e=>e⟩:Goes (λb=>b=wb) w6 (λb=>b=wb) wr) (λb a7 e=>(af b a7).1 e);have M:=cS r1 (⟨t.os,t.tape,t.output,t.size,t.aI,λ_ _ e=>e⟩:Goes (λb=>b=wb) w6 (λb=>b=wb) wr) (λb a7 e=>(ad b a7).1 e);have off:∀ {A:Option Addr} {n m:Nat} {xs:List Value} {b:Nat},w6.ownsRow w 3 1 (Y A n m) n xs->(Value.slice A n m).ownBlock=some b->(b≠wb/\b≠mb/\b≠cb/\b≠gb)->¬a.h3 zz.n b:=λ{A n m xs b} ho a7 aL I=>by
  have h2:=(ho.lt b a7).2;rcases h3 b I with e | ⟨a1,_⟩
  ·rcases e with e | e | e | e
   ·exact aL.1 e
   ·exact aL.2.1 e
   ·exact aL.2.2.1 e
   ·exact aL.2.2.2 e
  ·omega
 refine⟨a,⟨?_,ae,n6,?_,?_,?_,?_,?_,?_,λi hi=>absurd hi (by omega),λi _ hi=>⟨λb=>by rw[ha],(h.eN i hi).2⟩,λi j hi hj ay b a7 aG=>?_,λi hi b a7 aG=>?_,λb a7=>?_,λb a7=>?_⟩,by rw[ha]⟩
 ·have:=h.aW;rw[ha];exact this
 ·rw[ha];refine⟨pO n6.2 (by omega) hg ag,λb aq e=>?_⟩;have a7:(Value.slice A0 zz.n m0).ownBlock=some b:=by
   have e:A0=some ⟨b,aq,none⟩:=e;rcases r0.2 with⟨hv,_⟩ | ⟨g,cap,cur,hv,_⟩
   ·injection hv with hA;rw[e]at hA;cases hA
   ·rw[e];rfl
  rw[<-ha];exact off r0 a7 (af b a7)
 ·rw[ha];refine nn M (λb a7=>?_);rw[<-ha];exact off r1 a7 (ad b a7)
 ·rw[ha];have aQ:=h.row;have:SliceAt hO wr (λ_=>False) AD ((List.range zz.n).map q):=aQ.slice (λ_ e=>e.elim) (λ_ e=>e.elim);obtain⟨us,k1,k2,k3⟩:=this;refine⟨us,?_,k2,k3⟩;rcases k1 with k1 | ⟨b,aq,hA,a7,_,hcell⟩
  ·exact .inl k1
  ·refine .inr ⟨b,aq,hA,a7,?_,hcell⟩;rw[<-ha];intro I;have bw:(Value.slice AD zz.n cD).ownBlock=some b:=by
    obtain⟨us,bc,_⟩:=aQ;rcases bc.2 with⟨hv,_⟩ | ⟨g,cap,cur,hv,_⟩
    ·injection hv with aJ;rw[hA]at aJ;cases aJ
    ·rw[hA];rfl
   have bA:=aQ.lt bw;rcases h3 b I with e | ⟨_,_,i,hi,e⟩
   ·have h1:=hc.lt;have h2:=J.lt;omega
   ·obtain⟨A,c,_,aX,_⟩:=(h.eN i hi).2;exact aQ.ne (g:=q i) (t:=114) aX (by decide) (by rw[<-e];exact bw)
 ·rw[ha];have e:fQ 0 (λ_=>(⟨0,0,0,⟨0,0,none,none⟩⟩:b4))=λ_=>none:=by
   funext k;unfold fQ;rw[if_neg (by omega)]
  show dh wr mb (fQ 0 (λ_=>(⟨0,0,0,⟨0,0,none,none⟩⟩:b4)));rw[e];exact⟨#[],0,(t.aI mb b7 (λe=>ne.1 e.symm)).trans hm,λe he=>by simp at he,by simp,λa v=>by simp⟩
 ·rw[ha];exact t.aW hc (λe=>ne.2.1 e.symm)
 ·rw[ha];exact t.aW J (λe=>ne.2.2 e.symm)
 ·rw[ha]at a7 aG;have a7:b=q i:=a7;have aG:b=q j:=aG;exact h.apart i j hi hj ay (a7.symm.trans aG)
 ·rw[ha]at a7 aG;have a7:b=q i:=a7;have aG:b=wb\/b=mb\/b=cb\/b=gb:=aG;have h1:=(h.eN i hi).1.1;have h2:=hc.lt;have a1:=J.lt;omega
 ·have h2:=hc.lt;have a1:=J.lt;rcases h3 b a7 with e | ⟨h4,bi,_⟩
  ·omega
  ·omega
 ·rw[ha]at a7;have ob:∀ {A:Option Addr} {n n' m e k base b off:Nat} {xs:List Value} {W:World},W.ownsRow base e k (Y A n' m) n xs->A=some ⟨b,off,none⟩->base<=b:=λ{A n n' m e k base b off xs W} ho hA=>by
   have hv:(Value.slice A n' m).ownBlock=some b:=by
    rcases ho.2 with⟨hv,_⟩ | ⟨g,cap,cur,hv,_⟩
    ·injection hv with aJ;rw[hA]at aJ;cases aJ
    ·rw[hA];rfl
   exact(ho.lt b hv).1
  rcases a7 with⟨o,a7⟩ | ⟨o,a7⟩ | ⟨o,a7⟩
  ·exact ob r0 a7
  ·exact ob r1 a7
  ·obtain⟨us,k1,_⟩:=h.row;have h1:=hc.lt;have:=ob k1 a7;omega
theorem jV.done{w w1:World}{zz:aM}{base qn Bn:Nat}{a:WA}{q:Nat->Nat}{L:List Nt.cj}(h:jV w zz base zz.n a q)(b1:Below w w w1)(net:Nt.cA w1 w qn Bn L (λ_=>[]))(eJ:Nt.dy zz.p zz.n L):
 ∃a':WA,bB (w1.setCell ⟨a.wb,2,none⟩ (aj qn)) zz (λ_=>aC.new) a' (λ_=>[]) (List.replicate zz.homes.length 0) (List.replicate zz.homes.length aa).toArray/\(∀b,a'.hM zz.n b->base<=b)/\a'.wb=a.wb:=by
 obtain⟨a2,ae⟩:∃a2:WA,a2={a with qn:=qn,Bn:=Bn,L:=L}:=⟨_,rfl⟩;obtain⟨w2,a8⟩:=am (w1.setCell ⟨a.wb,2,none⟩ (aj qn));rw[<-a8];have lo:=net.lo;have hB:ai w2 a.wb 73 (bS zz a2).toArray:=by
  have:=(h.aW.below b1 h.aW.lt).put 2 (aj qn);rw[a8,ae];exact this
 have t1:aw (λb=>b=a.wb) w1 w2:=by
  rw[a8];exact⟨rfl,rfl,rfl,by simp,λb a7 aL=>Below.heap_setCell w1 _ _ b (λe=>aL e)⟩
 have t:aw (λb=>b=a.wb) w w2:=(aw.ao b1 _).trans t1 (λ_ _ e=>e);have eY:a.hn a.wb:=.inl rfl;have lt:∀b,a.h3 zz.n b->b<w.heap.size:=λb a7=>(h.lo b a7).2;have live:∀b,a2.live zz.n b->(∃i,i<zz.n/\a.F i b)\/(w.heap.size<=b/\∃x∈L,b=x.c):=by
  rw[ae];rintro b (e | ⟨x,hx,e⟩)
  ·exact .inl e
  ·exact .inr ⟨by rw[e];exact lo.2.2 x hx,x,hx,e⟩
 have bj:∀b,a2.bj b->a.hn b\/(b=qn\/b=Bn):=by
  rw[ae];rintro b (e | e | e | e | e | e)
  ·exact .inl (.inl e)
  ·exact .inr (.inl e)
  ·exact .inr (.inr e)
  ·exact .inl (.inr (.inl e))
  ·exact .inl (.inr (.inr (.inl e)))
  ·exact .inl (.inr (.inr (.inr e)))
 have all:∀b,a2.all zz.n b->a.h3 zz.n b\/w.heap.size<=b:=by
  rintro b (e | e)
  ·exact(live b e).imp (λe=>.inl e) (λe=>e.1)
  ·exact(bj b e).imp (λe=>.inr e) (λe=>e.elim (λe=>by omega) (λe=>by omega))
 have g:Goes (a.h3 zz.n) w (a2.all zz.n) w2:=⟨t.os,t.tape,t.output,t.size,λb a7 aL=>t.aI b a7 (λe=>aL (by rw[e];exact .inr eY)),λb a7 e=>(all b e).elim id (λe=>by omega)⟩;have hn:∀ {b:Nat} {ty:TypeId} {cs:Array Value},ai w b ty cs->b≠a.wb->ai w2 b ty cs:=λa7 ay=>t.aW a7 ay;have ag:∀i,i<zz.n->∀b,a.F i b->b<w.heap.size:=λi hi b a7=>lt b (.inl ⟨i,hi,a7⟩);have aZ:a.cb≠a.wb:=λe=>by
  have h1:=h.cur;rw[e]at h1;have:=h1.symm.trans h.aW;simp at this
 have n3:a.gb≠a.wb:=λe=>by
  have h1:=h.got;rw[e]at h1;have:=h1.symm.trans h.aW;simp at this
 have n4:a.mb≠a.wb:=λe=>by
  obtain⟨es,cl,m1,_⟩:=h.map.ex;rw[e]at m1;have:=m1.symm.trans h.aW;simp at this
 have qs:((List.range zz.n).map λi=>(a.br i).L.q)=(List.range zz.n).map q:=List.map_congr_left λi hi=>(h.br i (List.mem_range.1 hi)).2;have ef:∀b,a2.bj b↔(b=a.wb\/b=qn\/b=Bn\/b=a.mb\/b=a.cb\/b=a.gb):=λb=>by rw[ae];exact Iff.rfl
 have M:∀b,a.hn b->b<w.heap.size:=λb a7=>lt b (.inr a7);have I:a2.wb=a.wb/\a2.qn=qn/\a2.Bn=Bn/\a2.mb=a.mb/\a2.cb=a.cb/\a2.gb=a.gb/\a2.AP=a.AP/\a2.AH=a.AH/\a2.AD=a.AD/\a2.L=L/\a2.br=a.br/\a2.F=a.F:=by rw[ae];exact⟨rfl,rfl,rfl,rfl,rfl,rfl,rfl,rfl,rfl,rfl,rfl,rfl⟩
 clear ae;obtain⟨q1,q2,q3,q4,q5,q6,q7,q8,q9,J,Y,af⟩:=I;have fr:∀i,i<zz.n->∀b,a.F i b->¬b=a.wb:=λi hi b a7 e=>h.fix i hi b a7 (by rw[e];exact eY);refine⟨a2,⟨by rw[q1];exact hB,h.ok,h.n6,by rw[q7];exact h.par.goes g,by rw[q8];exact h.homes.goes g,by rw[q9,Y,qs];exact h.fF.goes g,by rw[q4,Y];exact h.map.aI (t.aI _ h.map.lt n4),?_,by simp,by rw[q6];exact hn h.got n3,by simp,λi hi=>by rw[Y,af];exact(h.br i hi).1.ba t (fr i hi),by rw[af];exact h.apart,λi hi b a7 x hx e=>?_,λb a7 hf=>?_,?_,by rw[J];exact eJ,λx _ m hm=>absurd hm (by simp)⟩,λb a7=>?_,q1⟩
 ·rw[q5,List.map_replicate];exact hn h.cur aZ
 ·rw[af]at a7;rw[J]at hx;have:=ag i hi b a7;have:=lo.2.2 x hx;omega
 ·rcases live b a7 with⟨i,hi,a7⟩ | ⟨h1,x,hx,e⟩
  ·rcases bj b hf with hf | hf
   ·exact h.fix i hi b a7 hf
   ·have:=ag i hi b a7;omega
  ·rcases bj b hf with hf | hf
   ·have:=M b hf;omega
   ·have h0:=net.q x hx;obtain⟨⟨s,r,b0⟩,_⟩:=h0;rcases hf with hf | hf
    ·have aY:ai w1 qn 118 _:=net.aW;rw[<-hf,e]at aY;have:=aY.symm.trans b0;simp at this
    ·obtain⟨es,m1,_⟩:=net.map;rw[<-hf,e]at m1;have:=m1.symm.trans b0;simp at this
 ·rw[q2,q3,J];have n0:=net.other t1 (λe=>by have:=M a.wb eY;omega) (λe=>by have:=M a.wb eY;omega) (λx hx e=>by have:=M a.wb eY;have:=lo.2.2 x hx;omega) (λx _ m hm=>absurd hm (by simp));exact⟨n0.aW,n0.map,n0.fair,n0.apart,⟨Nat.zero_le _,Nat.zero_le _,λ_ _=>Nat.zero_le _⟩,n0.q⟩
 ·have hw:base<=w.heap.size:=Nat.le_of_lt (Nat.lt_of_le_of_lt (h.lo a.wb (.inr eY)).1 (h.lo a.wb (.inr eY)).2);rcases a7 with a7 | a7
  ·rcases all b a7 with e | e
   ·exact(h.lo b e).1
   ·omega
  ·rw[q7,q8,q9]at a7;exact h.ad b a7
theorem Tryz.Bj:(Tryz.prog.info? 90).map (λi=>(i.zero,i.size,i.bytes))=some (some aa,1,24):=by kernel_rfl
theorem Tryz.AE:(Tryz.prog.info? 74).map (λi=>(i.zero.map (λz=>z.cells.size),i.size,i.bytes))=some (some 1,1,8):=by kernel_rfl
theorem Am(A0 A1:Option Addr)(n h m0 m1 mb cb gb:Nat):(Program.built Tryz.prog 73 [(0,Y A0 n m0),(1,Y A1 h m1),(4,.map (some mb)),(5,Y (aj cb) h h),(6,Y (aj gb) h h)]).map Array.toList=some [Y A0 n m0,Y A1 h m1,.pointer none,aa,.map (some mb),Y (aj cb) h h,Y (aj gb) h h]:=by kernel_rfl
theorem Ag(A0 A1:Option Addr)(n h m0 m1 mb cb gb:Nat)(w:World):(Instr.build 73 #[(0,Y A0 n m0),(1,Y A1 h m1),(4,.map (some mb)),(5,Y (aj cb) h h),(6,Y (aj gb) h h)]).run Tryz.prog w=.ok (aE #[Y A0 n m0,Y A1 h m1,.pointer none,aa,.map (some mb),Y (aj cb) h h,Y (aj gb) h h]) w:=by
 obtain⟨cs,h1,h2⟩:=Option.map_eq_some_iff.1 (Am A0 A1 n h m0 m1 mb cb gb);rw[run_build w 73 _ cs h1];rw[show cs=#[Y A0 n m0,Y A1 h m1,.pointer none,aa,.map (some mb),Y (aj cb) h h,Y (aj gb) h h] from Array.toList_inj.1 h2]
theorem vW{P:Prop}(h:P:=by
 intro A' c' w6 ho hg ah;rw[Nat.zero_add]at ho ah ⊢;rw[List.nil_append]at ho;exact ad _ w6 ⟨A',c',rfl,ho⟩ ((Below.refl w5 w5).grown hg (Nat.le_refl _) (λk hk=>by cases hk)) (sN ho ah)
 ):P:=h
theorem wq{P:Prop}(h:P:=by
 exact ad _ _ ⟨w5.heap.size,rfl,ai.made _ _ _⟩ ((Below.refl _ _).alloc (Nat.le_refl _) _) (λb h=>by have h:w5.heap.size=b:=Option.some.inj h;simp;omega)
 ):P:=h
theorem uw(zz:aM)(AP AH:Option Addr)(cP cH:Nat)(w:World)(ae:∀i,i<zz.n->(zz.at_ i).ok)(ca:zz.n<=6)(ht:Tr.c6 w w AP zz.n zz.p)(hh:SliceAt b5 w (λ_=>False) AH zz.homes)(hr:200<=zz.room):
 Calls Tryz.prog 6 #[Y AP zz.n cP,Y AH zz.homes.length cH,ag zz.room] w λe w'=>∃a:WA,e=.returned (.tuple #[aj a.wb,ag 0])/\bB w' zz (λ_=>aC.new) a (λ_=>[]) (List.replicate zz.homes.length 0) (List.replicate zz.homes.length aa).toArray/\Below w w w'/\∀b,a.hM zz.n b->w.heap.size<=b:=by
 have bv:1<=zz.n:=ht.1;have bm:1<=zz.homes.length:=(ae 0 (by omega)).h1;have bj:zz.homes.length<=32:=(ae 0 (by omega)).h2;have aX:zz.room<=1048576:=(ae 0 (by omega)).room;have ck:=Tr.jJ AP cP zz.n w zz.p w ht;have aO:Src w AP (df (ga zz.n zz.p)):=o0 ht;have aH:Src w AH (df (zz.homes.map λk:Nat=>(k:Int))):=ng hh;obtain⟨n,cC⟩:=am zz.n;obtain⟨nh,bh⟩:=am zz.homes.length;rw[<-cC]at ca bv ck ⊢;rw[<-bh]at bm bj ⊢;have HE:=di cC bh;have HH:=lv ae ht hh aO aH hr;obtain⟨i0,bM,bL,bJ,bR⟩:=info_parts Tr.Tryz.qe;clear ae ht hh aO aH hr cC bh;obtain⟨hs,a6⟩:=am w.heap.size;have aG:=Lib.hid a6;clear a6;go_enter Tryz.func6,Tryz.ntmps6;go_wp2_with fail;go_fit ck;clear ck;rintro e w0 ⟨rfl,rfl⟩;go_wp2_with fail;obtain⟨i9,bN,bk,bu,bo⟩:=info_parts Tryz.Bj;have aO:Src w.drew AP (df (ga zz.n zz.p)):=HH.out.2.2.2.1;have aH:Src w.drew AH (df (zz.homes.map λk:Nat=>(k:Int))):=HH.out.2.2.2.2.1;have bF:=λ(A0 A1:Option Addr) (m0 m1 mb cb gb:Nat) w=>Ag A0 A1 n nh m0 m1 mb cb gb w;refine wp_region_held_drew (S:=(λ_=>True)) (by kernel_rfl) trivial (λJ=>?_);refine tk 0 J ?_;refine tk 2 J ?_;refine tk 5 J ?_;refine tk 6 J ?_;refine tk 8 J ?_;refine tk 9 J ?_;refine mL (λAA=>AA.eval (.tmp 21)=Y AP n cP/\AA.eval (.tmp 23)=Y AH nh cH/\AA.eval (.tmp 27)=I af nh/\AA.eval (.tmp 30)=I af nh) 5 3 (λm=>[1,3,4,7,10].getD m 0) (λm=>[22,24,25,28,31].getD m 0) (λb=>#[true,b 0,true,b 1,b 2,true,true,b 3,true,true,b 4,false,false,false]) (λm v w=>if m=0 then ∃A c,v=Y A n c/\w.ownsRow hs 3 1 (Y A n c) n (df (ga zz.n zz.p))else if m=1 then ∃A c,v=Y A nh c/\w.ownsRow hs 3 1 (Y A nh c) nh (df (zz.homes.map λk:Nat=>(k:Int)))else if m=2 then ∃B,v=.map (some B)/\w.heap[B]? =some (.map #[] 0)else if m=3 then ∃B,v=Y (aj B) nh nh/\ai w B 3 (List.replicate nh (Value.int .i64 0)).toArray else ∃B,v=Y (aj B) nh nh/\ai w B 90 (List.replicate nh aa).toArray) (by kernel_rfl) (by kernel_rfl) ?_ (by decide) ?_ ?_ ?_ ?_ (λ_ _=>trivial) (λf=>⟨rfl,rfl,rfl,rfl⟩) ?_ ?_
 ·intro m m' h1 h2 ay;obtain rfl | rfl | rfl | rfl | rfl:m=0\/m=1\/m=2\/m=3\/m=4:=by omega
  all_goals (obtain rfl | rfl | rfl | rfl | rfl:m'=0\/m'=1\/m'=2\/m'=3\/m'=4:=by omega)
  all_goals first | (exact absurd rfl ay) | decide
 ·intro b;show okB (Region.ready .any _ #[true,b 0,true,b 1,b 2,true,true,b 3,true,true,b 4,false,false,false]) _ [b 0,b 1,b 2,b 3,b 4]=true;generalize b 0=x0;generalize b 1=x1;generalize b 2=x2;generalize b 3=x3;generalize b 4=x4;cases x0<;>cases x1<;>cases x2<;>cases x3<;>cases x4<;>kernel_rfl
 ·intro b m hm;obtain rfl | rfl | rfl | rfl | rfl:m=0\/m=1\/m=2\/m=3\/m=4:=by omega
  all_goals rfl
 ·intro b b' h;show#[true,b 0,true,b 1,b 2,true,true,b 3,true,true,b 4,false,false,false]=#[true,b' 0,true,b' 1,b' 2,true,true,b' 3,true,true,b' 4,false,false,false];rw[h 0 (by omega),h 1 (by omega),h 2 (by omega),h 3 (by omega),h 4 (by omega)]
 ·intro m hm v w5 w6 hp a7;obtain rfl | rfl | rfl | rfl | rfl:m=0\/m=1\/m=2\/m=3\/m=4:=by omega
  ·obtain⟨A,c,hv,ho⟩:=hp;exact⟨A,c,hv,aT ho a7⟩
  ·obtain⟨A,c,hv,ho⟩:=hp;exact⟨A,c,hv,aT ho a7⟩
  ·obtain⟨B,hv,ho⟩:=hp;exact⟨B,hv,(a7.block B (Array.getElem?_eq_some_iff.1 ho).1).trans ho⟩
  ·obtain⟨B,hv,ho⟩:=hp;exact⟨B,hv,ho.below a7 ho.lt⟩
  ·obtain⟨B,hv,ho⟩:=hp;exact⟨B,hv,ho.below a7 ho.lt⟩
 ·intro AA bH m hm;obtain⟨aA,bK,bx,bp⟩:=bH;obtain rfl | rfl | rfl | rfl | rfl:m=0\/m=1\/m=2\/m=3\/m=4:=by omega
  ·refine⟨_,rfl,λw5 K' a7 ad=>ej w5 rfl (.const aa) (.tmp 21) 22 rfl hs 1 3 i0 (ag 0) 8 Tryz.underlying22 bM bL bJ bR rfl (by decide) aa 0 [] rfl (World.ownsRow_nil _ _ _ _) AP n cP (df (ga zz.n zz.p)) aA (by rw[eF,dH,HE.out.1,Nat.mul_one]) (aO.below a7) (iD _) (by unfold maxLen;omega) (by omega) (by have h1:w.heap.size<=w5.heap.size:=a7.size;have:=aG.out;omega) ?_⟩;exact vW
  ·refine⟨_,rfl,λw5 K' a7 ad=>ej w5 rfl (.const aa) (.tmp 23) 22 rfl hs 1 3 i0 (ag 0) 8 Tryz.underlying22 bM bL bJ bR rfl (by decide) aa 0 [] rfl (World.ownsRow_nil _ _ _ _) AH nh cH (df (zz.homes.map λk:Nat=>(k:Int))) bK (by rw[eF,List.length_map,HE.out.2,Nat.mul_one]) (aH.below a7) (iD _) (by unfold maxLen;omega) (by omega) (by have h1:w.heap.size<=w5.heap.size:=a7.size;have:=aG.out;omega) ?_⟩;exact vW
  ·exact⟨_,rfl,λw5 K' a7 ad=>hV rfl 68 rfl (ad _ _ ⟨w5.heap.size,rfl,heap_alloc_new w5 _⟩ ((Below.refl _ _).alloc (Nat.le_refl _) _) (λb h=>by have h:=Option.some.inj h;simp;omega))⟩
  ·refine⟨_,rfl,λw5 K' a7 ad=>iZ rfl 22 (.tmp 27) (.tmp 27) rfl 3 i0 (ag 0) Tryz.underlying22 bM bL nh bx bx (by rw[bR];omega) (by omega) ?_⟩;rw[bJ,Nat.mul_one,sR];exact wq
  ·refine⟨_,rfl,λw5 K' a7 ad=>iZ rfl 69 (.tmp 30) (.tmp 30) rfl 90 i9 aa Tryz.underlying69 bN bk nh bp bp (by rw[bo];omega) (by omega) ?_⟩;rw[bu,Nat.mul_one,uG];exact wq
 ·intro f w5 hp bS au aq fuel bf;obtain⟨A0,m0,aB,cl⟩:=hp 0 (by omega);obtain⟨A1,m1,e1,bc⟩:=hp 1 (by omega);obtain⟨mb,a5,o2⟩:=hp 2 (by omega);obtain⟨cb,e3,o3⟩:=hp 3 (by omega);obtain⟨gb,e4,o4⟩:=hp 4 (by omega);have kR:=aq 0 1 (by omega) (by omega) (by omega);have jP:=aq 0 2 (by omega) (by omega) (by omega);have az:=aq 0 3 (by omega) (by omega) (by omega);have ax:=aq 0 4 (by omega) (by omega) (by omega);have d12:=aq 1 2 (by omega) (by omega) (by omega);have d13:=aq 1 3 (by omega) (by omega) (by omega);have d14:=aq 1 4 (by omega) (by omega) (by omega);have d23:=aq 2 3 (by omega) (by omega) (by omega);have d24:=aq 2 4 (by omega) (by omega) (by omega);have d34:=aq 3 4 (by omega) (by omega) (by omega);have l0:=au 0 (by omega);have l1:=au 1 (by omega);have l2:=au 2 (by omega);have l3:=au 3 (by omega);have l4:=au 4 (by omega);rw[aB]at kR jP az ax l0;rw[e1]at kR d12 d13 d14 l1;rw[a5]at jP d12 d23 d24 l2;rw[e3]at az d13 d23 d34 l3;rw[e4]at ax d14 d24 d34 l4;obtain⟨fuel,rfl⟩:∃q,fuel=q+3:=⟨fuel-3,by omega⟩;simp only[cr,aB,e1,a5,e3,e4,Act.put,List.getD_cons_zero,List.getD_cons_succ,List.setIfInBounds_toArray,List.set_cons_zero,List.set_cons_succ];have J:(λ_=>True) w5:=trivial;have a3:=Lib.hid (And.intro kR (And.intro jP (And.intro az (And.intro ax (And.intro d12 (And.intro d13 (And.intro d14 (And.intro d23 (And.intro d24 (And.intro d34 (And.intro l0 (And.intro l1 (And.intro l2 (And.intro l3 (And.intro l4 (And.intro cl (And.intro bc (And.intro o2 (And.intro o3 o4)))))))))))))))))));clear kR jP az ax d12 d13 d14 d23 d24 d34 l0 l1 l2 l3 l4 cl bc o2 o3 o4 aB e1 a5 e3 e4 hp au aq bf aO aH;refine tk 11 J ?_;refine aP 12 (λK ad=>?_);clear J;go_simp;obtain⟨w6,aY⟩:=am (w5.alloc (.cells #[Y A0 n m0,Y A1 nh m1,.pointer none,aa,.map (some mb),Y (aj cb) nh nh,Y (aj gb) nh nh] 73));rw[<-aY];have bZ:ai w6 w5 73 #[Y A0 n m0,Y A1 nh m1,.pointer none,aa,.map (some mb),Y (aj cb) nh nh,Y (aj gb) nh nh]:=(by rw[aY];exact ai.made _ _ _);have b6:=aV aY;have bd:w5.heap.size<w6.heap.size:=(by rw[aY];simp);clear aY;refine ad.out _ _ trivial (λJ=>?_);clear ad K;refine tk 13 J ?_;refine cB ?_ _;clear J bF;go_wp2_with fail;obtain⟨wb,eY⟩:=am w5.heap.size;rw[<-eY]at bZ bd ⊢;have M0:vc w6 w6 zz.room wb 0 (k6 A0 A1 n m0 nh m1 mb cb gb) aa (λ_=>0):=⟨bZ,aD.nil _ _ _ _ _,λi hi=>absurd hi (by omega),λi j hi=>absurd hi (by omega),aw.refl _ _⟩;have HW:=fm eY bS b6;obtain⟨i4,z4,bq,bP,bt,cp,bD⟩:=aS Tryz.AE;clear bZ eY bS b6
  go_loopw [36] (λi_ wr=>∃ (k:Nat) (v:Value) (q:Nat->Nat),i_=I af k/\k<=n/\vc w6 wr zz.room wb k (k6 A0 A1 n m0 nh m1 mb cb gb) v q) (λi _=>n- (intOf i).toNat)
  case atStart=>exact⟨0,aa,λ_=>0,rfl,Nat.zero_le _,M0⟩
  case round=>
   obtain⟨k,v,q,rfl,hk,M⟩:=hrel;by_cases bA:k<n
   ·have bE:(k:Int)<(n:Int):=(by omega);obtain⟨AD,nD,cD,rfl,aF,bG⟩:=M.row.form;obtain⟨lq,dg⟩:=am ((List.range k).map q);have aR:lq.length=k:=(by rw[dg,List.length_map,List.length_range]);have aU:nD=k:=(by rw[aF.out,<-dg,aR]);subst aU;have nw:=Dk.sl zz.room wr aX;obtain⟨w1,aN⟩:=am (wr.alloc (.cells #[Y none 0 0,ag 0,ag zz.room] 114));have ak:Dk.cY w1 wr 0 none [] 0 zz.room:=(by rw[aN];exact Dk.cY.made _ _ _ (Nat.zero_le _) aX);have b1:=aV aN;have s1:wr.heap.size<w1.heap.size:=(by rw[aN];simp);obtain⟨dq,a4⟩:=am wr.heap.size;have aE:=M.aW.below b1 M.aW.lt;unfold k6 at aE;have bb:=aE.cell 3;simp at bb;have O1:=(M.row).below b1;have s6:=M.ba.size;have bC:=(Below.refl w1 w1).alloc (Nat.le_refl _) (.cells #[aj dq] 74);have Oa:=O1.below bC;have ar:=aE.below bC aE.lt;rw[<-dg]at Oa;have aQ:∀b,(Value.slice AD nD cD).ownBlock=some b->w6.heap.size<=b:=λb a7=>(M.row.lt a7).1;have HM:=lv M dg a4 ak b1 aR;clear M O1 ak dg aF aE;go_wp2_with fail;go_fit nw;clear nw;rintro e w9 ⟨rfl,br⟩;obtain rfl:w1=w9:=aN.trans br;clear aN br;rw[<-a4];clear a4 b1;go_wp2_with (at_builtin;refine a9 _ rfl (.tmp 50) (.tmp 52) 71 rfl hO w6 74 i4 z4 8 Tryz.underlying71 bq bP cp bD bt (by decide) (λb=>b<w6.heap.size) (Y AD nD cD) lq rfl Oa (aj w1) 1 [aj dq] dq rfl (Src.made w1 _ _) rfl (by rw[aR];unfold maxLen;omega) (by rw[aR];omega) (by simp;omega) ?_;rw[aR];intro A6 bX w7 O6 cz gr aZ;have cw:=ar.grown gr (λe=>by have:=aQ wb e.symm;omega);have p3:=cw.cell 3;have bT:=cw.free 3;simp at p3)
    go_round
    case rel=>
     obtain⟨M,h2,a1,h4,bi,h6⟩:=HM.out;rw[h2,a1]at O6;have bO:Dk.cY (w1.alloc (.cells #[aj dq] 74)) wr 0 none [] 0 zz.room:=iA h4 (aw.ao bC λ_=>False) id;exact⟨nD+1,_,_,by go_num,by omega,M.next bd (λ_ _=>rfl) (bi.trans (bC.mono bi.size)) bO (Nat.lt_of_lt_of_le s1 bC.size) O6 gr⟩
    case measure=>simp[intOf];omega
   ·obtain rfl:k=n:=(by omega);have bE:¬ ((k:Int)<(k:Int)):=(by omega);obtain⟨AD,nD,cD,rfl,aF,bG⟩:=M.row.form;obtain⟨kR,jP,az,ax,d12,d13,d14,d23,d24,d34,l0,l1,l2,l3,l4,cl,bc,o2,o3,o4⟩:=a3.out;have aJ:Below w w w5:=a8 HW.out.2.1;have T0:aw (λb=>w.heap.size<=b) w wr:=(((aw.ao aJ λ_=>False).trans (aw.ao HW.out.2.2 λ_=>False) (λ_ _ e=>e)).wide (λ_ _ e=>e.elim)).trans M.ba (λb a7 e=>by have e:b=wb:=e;have:=HW.out.1;have:=aJ.size;omega);obtain⟨a0,bl,aI⟩:∃a:WA,jV wr zz w 0 a q/\a.wb=wb:=by
     have e5:=HW.out.1;have s5:=aJ.size;have l2:w.heap.size<=mb/\mb<w5.heap.size:=l2 mb rfl;have l3:w.heap.size<=cb/\cb<w5.heap.size:=l3 cb rfl;have l4:w.heap.size<=gb/\gb<w5.heap.size:=l4 gb rfl;have z0:=lz cl;have z1:=lz bc;have r0:=aT cl HW.out.2.2;have r1:=aT bc HW.out.2.2;have c3:=o3.below HW.out.2.2 o3.lt;have c4:=o4.below HW.out.2.2 o4.lt;rw[aG.out,HE.out.1]at r0;rw[aG.out,HE.out.2]at r1;rw[HE.out.1,HE.out.2]at M;rw[HE.out.2]at c3 c4;refine M.done HH.out.1 ⟨by rw[<-HE.out.1];exact ca,by rw[<-HE.out.1];exact bv⟩ HH.out.2.1.2.2.1 r0 r1 ((HW.out.2.2.block mb l2.2).trans o2) c3 c4 bd ⟨by omega,l2.1,l3.1,l4.1⟩ ⟨by omega,by omega,by omega⟩ (λb a7=>?_) (λb a7=>?_)
     ·rw[<-HE.out.1,<-z0]at a7;have h1:=(l0 b a7).2;exact⟨by omega,λe=>jP b a7 (by rw[e];rfl),λe=>az b a7 (by rw[e];rfl),λe=>ax b a7 (by rw[e];rfl)⟩
     ·rw[<-HE.out.2,<-z1]at a7;have h1:=(l1 b a7).2;exact⟨by omega,λe=>d12 b a7 (by rw[e];rfl),λe=>d13 b a7 (by rw[e];rfl),λe=>d14 b a7 (by rw[e];rfl)⟩
    clear kR jP az ax d12 d13 d14 d23 d24 d34 l0 l1 l2 l3 l4 cl bc o2 o3 o4 M aF bG aJ M0 a3;go_wp2_with fail
    go_loopw [59] (λi_ w1=>∃ (j:Nat) (bg:WA),i_=I af j/\j<=k/\jV w1 zz w j bg q/\aw (λb=>w.heap.size<=b) w w1/\bg.wb=wb) (λi _=>k- (intOf i).toNat)
    case atStart=>exact⟨0,a0,rfl,Nat.zero_le _,bl,T0,aI⟩
    case round=>
     obtain⟨j,bg,rfl,hj,OP,T1,av⟩:=hrel;by_cases b9:j<k
     ·have bs:(j:Int)<(k:Int):=(by omega);have op:=Bz zz w j bg q _ OP (by have:=HE.out.1;omega) HH.out.2.2.2.2.2;rw[av]at op;have HO:=di T1 av;clear OP T1 av T0 bl aI;go_wp2_with fail;go_fit op;clear op;rintro e w2 ⟨rfl,a2,bI,T2,bz⟩;go_wp2
      go_round
      case rel=>exact⟨j+1,a2,by go_num,by omega,bI,HO.out.1.trans T2 (λ_ _ e=>e),bz⟩
      case measure=>simp[intOf];omega
     ·obtain rfl:j=k:=(by omega);have bs:¬ ((j:Int)<(j:Int)):=(by omega);have b1:Below w w _:=T1.below (Nat.le_refl _) (λb _ e=>e);have bn:=(eS.goes (⟨HH.out.2.1,λ_ _ _ e=>e⟩:eS w (λ_=>False) AP zz.n zz.p) (Goes.ao b1 _)).1;have nk:=Nt.A5 AP cP zz.n zz.p _ bn;rw[<-HE.out.1]at nk;have hB:=OP.aW;unfold jd at hB;rw[av]at hB;have HO:=fm T1 av OP;clear OP T1 av T0 bl aI bn b1;go_wp2_with fail;go_fit nk;clear nk;rintro e w3 ⟨qn,Bn,L,rfl,net,eJ,b3⟩;have bW:=hB.below b3 hB.lt;have p2:=bW.cell 2;have bQ:=bW.free 2;simp at p2;obtain⟨T1,av,OP⟩:=HO.out;rw[HE.out.1]at OP eJ;obtain⟨aK,W9,bw,br⟩:=OP.done b3 net eJ;rw[av]at W9 br;have H9:=ja W9 bw br b3 T1;clear W9 bw br OP net eJ b3 T1 av hB bW;go_wp2;go_ret2;rw[HE.out.1,HE.out.2];refine⟨aK,by rw[H9.out.2.2.1];rfl,H9.out.1,?_,H9.out.2.1⟩;have t4:aw (λb=>b=wb) w3 (w3.setCell ⟨wb,2,none⟩ (aj qn)):=⟨rfl,rfl,rfl,by simp,λb _ aL=>Below.heap_setCell _ _ _ b (λe=>aL e)⟩;refine((H9.out.2.2.2.2.trans (aw.ao H9.out.2.2.2.1 λ_=>False) (λ_ _ e=>e.elim)).trans t4 (λb _ e=>?_)).below (Nat.le_refl _) (λb _ e=>e);have e:b=wb:=e;have h1:=HW.out.1;have h2:=(a8 HW.out.2.1:Below w w w5).size;omega
section
theorem Tryz.BP:(Tryz.prog.info? 23).map (λi=>(i.zero,i.size,i.bytes))=some (some aa,1,24):=by kernel_rfl
section
variable (zz:aM)(bs:Nat->aC)(a:WA)(cs:List Nat)(gs:Array Value)(c:Nat)(w:World)(h:bB w zz bs a (λ_=>[]) cs gs)(hc:c<zz.homes.length)(i:Nat)(hi:zz.homes[c]=i)
include h hc hi
theorem tR(j:Nat)(hf:Fit (zz.at_ i) (bs i))(aq:cs[c]? =some 0)(aH:gs[c]? =some aa)(hp:ju (bs i).list c j)(hv:0<(fU (bs i).list c j).length/\(fU (bs i).list c j).length<=100)(aB:∀e∈fU (bs i).list c j,e.length<=1000/\∀a∈e,a.fits):
 Calls Tryz.prog 13 #[aj a.wb,ag c] w λe w'=>(∃A n,e=.returned (.tuple #[Y A (fU (bs i).list c j).length n,ag 0]))/\∃jQ,bB w' zz bs a (λ_=>[]) (cs.set c (ia (bs i).list j)) jQ/\aw (λb=>b=a.cb\/b=a.gb) w w':=by
 have az:=gL zz bs a _ cs gs c w h hc i hi;have hm:=jA zz bs a _ cs gs c w h hc;rw[hi]at hm;have call:=λ(w':World) (b:Below w w w')=>wu (zz.at_ i) (bs i) (a.br i) (a.F i) c j w' (h.ok i az) ((h.br i az).below b) hf hc hi hp;obtain⟨pn,af⟩:=am (ia (bs i).list j);obtain⟨pv,ax⟩:=am (fU (bs i).list c j);rw[<-af,<-ax]at call;rw[<-ax]at hv aB;rw[<-af,<-ax];obtain⟨nv,ay⟩:=am pv.length;rw[<-ay]at hv ⊢;have HH:=lv h aq call aH aB ay;clear h hi hf hp aq call az af ax aH aB ay;have aQ:zz.homes.length<=32:=(HH.out.1.ok 0 (by have:=HH.out.1.n6;omega)).h2;obtain⟨i3,aC,aU,aS,aR⟩:=info_parts Tryz.BP;go_enter Tryz.func13,Tryz.ntmps13;go_wp2_with fail;go_fit hm;clear hm;rintro e w1 ⟨rfl,b1⟩;have h1:=HH.out.1.below b1;have aE:=h1.aW;unfold bS at aE;have y5:=aE.cell 5;simp at y5;have yc:=h1.cur.cell c;simp[HH.out.2.1]at yc;have bA:(c:Int)<(zz.homes.length:Int):=by omega
 have cl:=HH.out.2.2.1 w1 b1;have HB:=di h1 b1;clear h1 b1 aE;go_wp2_with fail;go_fit cl;clear cl;rintro e w2 ⟨v,rfl,O,b2⟩;obtain⟨A,n,aZ,rfl,aL,aO⟩:=O.form;have a3:nv=n:=HH.out.2.2.2.2.2.trans aL.out.symm;subst a3;have ae:0<(nv:Int):=by omega
 have h2:=HB.out.1.below b2;have bq:=h2.aW;unfold bS at bq;have z5:=bq.cell 5;simp at z5;have zf:=h2.cur.free c;have zc:=h2.cur.cell c;simp[HH.out.2.1]at zc;have bo:=HB.out.2.trans (b2.mono HB.out.2.size);obtain⟨w3,bd⟩:=am (w2.setCell ⟨a.cb,c,none⟩ (ag pn));have t3:aw (λb=>b=a.cb) w2 w3:=by rw[bd];exact⟨rfl,rfl,rfl,by simp,λb a7 aL=>Below.heap_setCell _ _ _ b aL⟩
 have aK:a.wb≠a.cb:=λe=>by have:=bq;rw[e]at this;have:=this.symm.trans h2.cur;simp at this
 have aT:a.wb≠a.gb:=λe=>by have:=bq;rw[e]at this;have:=this.symm.trans h2.got;simp at this
 have aA:a.gb≠a.cb:=λe=>pY h2 e.symm;have av:ai w3 a.cb 3 ((cs.map λk:Nat=>Value.int .i64 k).toArray.setIfInBounds c (ag pn)):=by rw[bd];exact h2.cur.put c (ag pn)
 have bW:=t3.aW bq aK;have aF:=t3.aW h2.got aA;have sl:=O.slice (S':=λ_=>False) (λ_ e=>e.elim) (λ_ e=>e.elim);have aM:SliceAt aN w3 (λb=>b=a.cb) A pv:=by
  have:SliceAt aN w2 (λb=>b=a.cb) A pv:=O.slice (λb a7=>by have:=HB.out.1.cur.lt;rw[a7];exact this) (λb a7=>by have:=HB.out.1.cur.lt;rw[a7];exact this);exact this.goes ⟨t3.os,t3.tape,t3.output,t3.size,t3.aI,λ_ _ e=>e⟩
 have H2:=lv h2 bo t3 av aT aA;clear O h2 b2 bo bq y5 yc sl av t3 aK;go_wp2_with fail;rw[<-bd];clear bd z5 zf zc;have ev:=λ(w':World) (b:Below w3 w3 w')=>qB _ A nv aZ pv w' HH.out.2.2.2.2.2 (by omega) (aM.below b) HH.out.2.2.2.2.1;have cc:Below w3 w3 w3.drew:=⟨rfl,rfl,rfl,Nat.le_refl _,λ_ _=>rfl⟩;have aJ:=bW.below cc bW.lt;have au:=aF.below cc aF.lt;clear bW aF aM;refine wp_region_held_drew (S:=(λw'=>w'.cell? ⟨a.wb,6,none⟩=some (Y (aj a.gb) zz.homes.length zz.homes.length))) (by kernel_rfl) (aJ.cell 6) (λJ=>?_);generalize w3.drew=wd at cc aJ au J ⊢;refine tk 0 J ?_;refine tk 1 J ?_;refine tk 2 J ?_;refine tk 3 J ?_;refine tk 4 J ?_;refine tk 5 J ?_;refine tk 6 J ?_;refine tk 7 J ?_;refine tk 8 J ?_;refine tk 9 J ?_;refine tk 10 J ?_;refine tk 12 J ?_;refine wpAnyH_ready (rs:=[11,13]) (by kernel_rfl) (by simp) (AllReadyH.cons (by simp only[List.getElem?_toArray,List.getElem?_cons_succ,List.getElem?_cons_zero];rfl) (λK ad=>?_) (AllReadyH.cons (by simp only[List.getElem?_toArray,List.getElem?_cons_succ,List.getElem?_cons_zero];rfl) (λK ad=>?_) AllReadyH.nil))
 focus
  clear J;have g0:=au.cell c;simp[HH.out.2.2.2.1]at g0;go_simp;clear g0;refine ad.out _ _ (aJ.cell 6) (λJ=>?_);clear ad K;refine aP 13 (λK ad=>?_);clear J;go_simp;refine(ev wd cc).mono ?_;clear ev;rintro e w4 ⟨u,rfl,O4,bK⟩;obtain⟨AE,nE,ba,rfl,cC,dU⟩:=O4.form;have bt:=aJ.below bK aJ.lt;have M:=au.below bK au.lt;refine ad.out _ _ (bt.cell 6) (λJ=>?_);clear ad K;refine aP 14 (λK ad=>?_);clear J;go_simp;have bC:=(Below.refl w4 w4).alloc (Nat.le_refl _) (.cells #[Y AE nE ba] 23);have ar:=bt.below bC bt.lt;have aD:=M.below bC M.lt;refine ad.out _ _ (ar.cell 6) (λJ=>?_);clear ad K
 rotate_left
 focus
  clear J;go_simp;refine(ev wd cc).mono ?_;clear ev;rintro e w4 ⟨u,rfl,O4,bK⟩;obtain⟨AE,nE,ba,rfl,cC,dU⟩:=O4.form;have bt:=aJ.below bK aJ.lt;have M:=au.below bK au.lt;refine ad.out _ _ (bt.cell 6) (λJ=>?_);clear ad K;refine wpAnyH_ready (rs:=[11,14]) (by kernel_rfl) (by simp) (AllReadyH.cons (by simp only[List.getElem?_toArray,List.getElem?_cons_succ,List.getElem?_cons_zero];rfl) (λK ad=>?_) (AllReadyH.cons (by simp only[List.getElem?_toArray,List.getElem?_cons_succ,List.getElem?_cons_zero];rfl) (λK ad=>?_) AllReadyH.nil))
  focus
   clear J;have g0:=M.cell c;simp[HH.out.2.2.2.1]at g0;go_simp;clear g0;refine ad.out _ _ (bt.cell 6) (λJ=>?_);clear ad K;refine aP 14 (λK ad=>?_);clear J;go_simp;have bC:=(Below.refl w4 w4).alloc (Nat.le_refl _) (.cells #[Y AE nE ba] 23);have ar:=bt.below bC bt.lt;have aD:=M.below bC M.lt;refine ad.out _ _ (ar.cell 6) (λJ=>?_);clear ad K
  rotate_left
  focus
   clear J;go_simp;have bC:=(Below.refl w4 w4).alloc (Nat.le_refl _) (.cells #[Y AE nE ba] 23);have ar:=bt.below bC bt.lt;have aD:=M.below bC M.lt;refine ad.out _ _ (ar.cell 6) (λJ=>?_);clear ad K;refine aP 11 (λK ad=>?_);clear J;have g0:=aD.cell c;simp[HH.out.2.2.2.1]at g0;go_simp;clear g0;refine ad.out _ _ (ar.cell 6) (λJ=>?_);clear ad K
 all_goals
  refine aP 15 (λK ad=>?_);clear J;refine ej _ rfl (.tmp 57) (.tmp 60) 90 rfl 0 1 23 i3 aa 24 Tryz.underlying90 aC aU aS aR rfl (by decide) aa 0 [] rfl (World.ownsRow_nil _ _ _ _) (aj w4) 1 1 [Y AE nE ba] rfl rfl (Src.made w4 _ _) (by intro u hu;rw[List.mem_singleton.1 hu];rfl) (by unfold maxLen;omega) (by omega) (Nat.zero_le _) ?_;intro A' c' w6 ho hg ah;have b9:=ar.grown hg (λe=>by cases e);have ak:=aD.grown hg (λe=>by cases e);refine ad.out _ _ (b9.cell 6) (λJ=>?_);clear ad K;refine tk 16 J ?_;refine aP 17 (λK ad=>?_);clear J;have g0:=ak.cell c;simp[HH.out.2.2.2.1]at g0;have gf:=ak.free c;go_simp;have cw:=b9.dA (p:=⟨a.gb,c,none⟩) H2.out.2.2.2.2.1 (Y A' (0+1) c');refine ad.out _ _ (cw.cell 6) (λJ=>?_);clear ad K;refine cB ?_ _;clear J;have aV:=ak.put c (Y A' (0+1) c');go_wp2;go_ret2;refine⟨⟨A,aZ,rfl⟩,gs.setIfInBounds c (Y A' (0+1) c'),?_⟩;obtain⟨h2,bo,t3,av,aT,aA⟩:=H2.out;have aG:Below w3 w3 w6:=((cc.trans (bK.mono cc.size)).trans (bC.mono (Nat.le_trans cc.size bK.size))).grown hg (Nat.le_trans cc.size (Nat.le_trans bK.size bC.size)) (λk hk=>by cases hk);have t7:aw (λb=>b=a.gb) w6 (w6.setCell ⟨a.gb,c,none⟩ (Y A' (0+1) c')):=⟨rfl,rfl,rfl,by simp,λb a7 aL=>Below.heap_setCell _ _ _ b aL⟩;have I:aw (λb=>b=a.cb\/b=a.gb) w2 (w6.setCell ⟨a.gb,c,none⟩ (Y A' (0+1) c')):=((t3.wide (λb _ e=>.inl e)).trans (aw.ao aG λ_=>False) (λ_ _ e=>e.elim)).trans t7 (λ_ _ e=>.inr e);have aX:=t7.aW (av.below aG av.lt) (λe=>aA e.symm);refine⟨h2.vw I ?_ (by rw[List.length_set];exact HH.out.1.cl) aV (by rw[Array.size_setIfInBounds];exact HH.out.1.gl),(aw.ao bo _).trans I (λ_ _ e=>e)⟩;rw[List.map_set];simpa using aX
end
end
def cU(recs:List bG):List UInt8:=((recs.map bG.enc).map Fr.wrap).flatten
structure fT (w:World) (zz:aM) (a:WA) (i:Nat) (recs:List bG):Prop where
 aW:ai w a.wb 73 (bS zz a).toArray
 map:dh w a.mb (λk=>if k=(i:Int)then none else fQ zz.n a.br k)
 eN:∃db off q dr,a.AD=some ⟨db,off,none⟩/\w.cell? ⟨db,off+i,none⟩=some (.pointer (aj q))/\Dk.cY w q 0 dr (cU recs) (cU recs).length zz.room/\∀b,(b=q\/dr=some b)->a.all zz.n b
theorem fT.off{w w':World}{zz:aM}{a:WA}{i:Nat}{recs:List bG}{O:Nat->Prop}(h:fT w zz a i recs)(t:aw O w w')(ho:∀b,a.hM zz.n b->¬O b):fT w' zz a i recs:=by
 obtain⟨db,off,q,dr,hA,hd,hD,hq⟩:=h.eN;have f:=λb (a7:a.bj b)=>ho b (.inl (.inr a7));refine⟨t.aW h.aW (f _ (.inl rfl)),h.map.aI (t.aI _ h.map.lt (f _ (.inr (.inr (.inr (.inl rfl)))))),db,off,q,dr,hA,?_,?_,hq⟩
 ·rw[World.cell?_of_block (w:=w) (w':=w') (a:=⟨db,off+i,none⟩) (t.aI db (World.block_lt_of_cell? w _ hd) (ho db (.inr (.inr (.inr ⟨off,hA⟩)))))];exact hd
 ·exact cF hD (⟨t.os,t.tape,t.output,t.size,t.aI,λ_ _ e=>e⟩:Goes O w O w') (ho q (.inl (hq q (.inl rfl)))) (λb a7=>ho b (.inl (hq b (.inr a7))))
theorem fT.below{w w':World}{zz:aM}{a:WA}{i:Nat}{recs:List bG}(h:fT w zz a i recs)(b:Below w w w'):fT w' zz a i recs:=h.off (aw.ao b λ_=>False) (λ_ _ e=>e)
theorem m8(recs:List bG):((recs.map bG.enc).map Fr.wrap).flatten=cU recs:=rfl
theorem yW(zz:aM)(bs:Nat->aC)(a:WA)(cs:List Nat)(gs:Array Value)(i:Nat)(w:World)(h:bB w zz bs a (λ_=>[]) cs gs)(hi:i<zz.n):
 Calls Tryz.prog 80 #[aj a.wb,.int .i64 i,.int .i64 0] w λe w'=>e=.returned (.int .i64 0)/\fT w' zz a i (bs i).recs/\aw (a.all zz.n) w w':=by
 have is:=wa zz bs a _ cs gs i w h hi;have up:=B6 zz bs a _ cs gs i w h hi;have hB:=h.aW;unfold bS at hB;have y4:=hB.cell 4;simp at y4;obtain⟨db,off,hA,I,ax,hd⟩:=nz h.fF (k:=i) (by simpa using hi);rw[List.getElem_map,List.getElem_range]at hd;have hl:=(h.br i hi).log;rw[m8]at hl;have hF:∀b,(a.br i).mut b->a.live zz.n b:=λb a7=>.inl ⟨i,hi,(h.br i hi).own b a7⟩;have ca:=h.n6;have wf:(Lit.int .i64 (i:Int)).wf=true:=ei (by omega);obtain⟨w1,ae,aK,g1,s1⟩:=y3 Tryz.underlying68 0 3 h.map wf;have J:a.bj a.mb:=.inr (.inr (.inr (.inl rfl)));have t1:aw (λb=>b=a.mb) w w1:=aw.bN g1 (λb a7=>(Option.some.inj a7).symm);have ad:a.wb≠a.mb:=λe=>by obtain⟨es,cl,m1,_⟩:=h.map.ex;have:=h.aW;rw[e]at this;have:=this.symm.trans m1;simp at this
 have aE:=t1.aW hB ad;have ak:w1.cell? ⟨db,off+i,none⟩=some (.pointer (aj (a.br i).L.q)):=by
  rw[World.cell?_of_block (w:=w) (w':=w1) (a:=⟨db,off+i,none⟩) (t1.aI db ax (λe=>I (.inr (by rw[e];exact J))))];exact hd
 have nf:∀b,(a.br i).mut b->b≠a.mb:=λb a7 e=>h.fix b (.inl ⟨i,hi,(h.br i hi).own b a7⟩) (by rw[e];exact J);have af:Dk.cY w1 (a.br i).L.q 0 (a.br i).L.dr (cU (bs i).recs) (cU (bs i).recs).length (zz.at_ i).room:=cF hl.eN (⟨t1.os,t1.tape,t1.output,t1.size,t1.aI,λ_ _ e=>e⟩:Goes (λb=>b=a.mb) w (λb=>b=a.mb) w1) (nf _ (.inr (.inr (.inr (.inr (.inl rfl)))))) (λb a7=>nf b (.inr (.inr (.inr (.inr (.inr (.inr a7)))))));have cr:=Dk.tB (a.br i).L.q 0 _ _ (a.br i).L.dr _ 0 w1 af (by omega);have a1:(cU (bs i).recs).take ((cU (bs i).recs).length+min (0:Int).toNat ((cU (bs i).recs).length- (cU (bs i).recs).length))=cU (bs i).recs:=by simp
 have M:(cU (bs i).recs).length+min (0:Int).toNat ((cU (bs i).recs).length- (cU (bs i).recs).length)=(cU (bs i).recs).length:=by simp
 rw[a1,M]at cr;have bb:=aE.cell 3;rw[hA]at bb;simp at bb;have bA:(i:Int)<(zz.n:Int):=by omega
 have HH:=Dc hA hF aK t1 aE ak nf h I;clear h hB hi hl hF aK g1 s1 t1 aE nf hd I af a1 M hA J ad;go_enter Tryz.func80,Tryz.ntmps80;go_wp2_with fail;go_fit is;clear is;rintro e w2 ⟨rfl,rfl⟩;go_wp2_with fail;go_fit up;clear up;rintro e w2 ⟨rfl,rfl⟩;go_wp2_with fail;go_fit cr;clear cr;rintro e w3 ⟨rfl,aa,Y⟩;go_wp2;go_ret;obtain⟨hA,hF,aK,t1,aE,ak,nf,h,I⟩:=HH.out;have t3:aw (λb=>b=(a.br i).L.q\/(a.br i).L.dr=some b) w1 w3:=⟨Y.os,Y.tape,Y.output,Y.size,λb a7 aL=>Y.block b a7 (λe=>aL (.inl e)) (λe=>aL (.inr e.symm))⟩;have mq:∀b,(b=(a.br i).L.q\/(a.br i).L.dr=some b)->(a.br i).mut b:=λb a7=>a7.elim (λe=>.inr (.inr (.inr (.inr (.inl e))))) (λe=>.inr (.inr (.inr (.inr (.inr (.inr e))))));have fx:∀b,a.bj b->¬ (b=(a.br i).L.q\/(a.br i).L.dr=some b):=λb hf a7=>h.fix b (hF b (mq b a7)) hf;refine⟨rfl,⟨t3.aW aE (fx _ (.inl rfl)),aK.aI (t3.aI _ aK.lt (fx _ (.inr (.inr (.inr (.inl rfl)))))),db,off,(a.br i).L.q,(a.br i).L.dr,hA,?_,aa,λb a7=>.inl (hF b (mq b a7))⟩,?_⟩
 ·rw[World.cell?_of_block (w:=w1) (w':=w3) (a:=⟨db,off+i,none⟩) (t3.aI db (World.block_lt_of_cell? w1 _ ak) (λe=>I (.inl (hF db (mq db e)))))];exact ak
 ·exact(t1.wide (λb _ e=>.inr (by rw[e];exact .inr (.inr (.inr (.inl rfl)))))).trans t3 (λb _ e=>.inl (hF b (mq b e)))
section
theorem sq(k:Nat)(A A2:Option Addr)(n c aZ c2:Nat)(w:World):(Instr.field 49 (bT k A n c A2 aZ c2) 1).run Tryz.prog w=.ok (Y A n c) w:=by kernel_rfl
theorem wy(k:Nat)(A A2:Option Addr)(n c aZ c2:Nat)(w:World):(Instr.field 49 (bT k A n c A2 aZ c2) 2).run Tryz.prog w=.ok (Y A2 aZ c2) w:=by kernel_rfl
section
variable (zz:aM)(a:WA)(i:Nat)(recs:List bG)(w:World)(h:fT w zz a i recs)(hi:i<zz.n)(n6:zz.n<=6)
include h hi n6
theorem B9:Calls Tryz.prog 37 #[aj a.wb,ag i] w λe w'=>e=.returned (.bool true)/\w=w':=by
 have _:=n6;have hB:=h.aW;unfold bS at hB;have y0:=hB.cell 0;simp at y0;have g1:decide ((0:Int)<=(i:Int))=true:=decide_eq_true (by omega);have bA:(i:Int)<(zz.n:Int):=by omega
 clear h hB hi;go_enter Tryz.func37,Tryz.ntmps37;go_wp2;go_ret;exact⟨rfl,rfl⟩
theorem m6:(Instr.lookup 68 (.map (some a.mb)) (ag i) true).run Tryz.prog w=.ok (.tuple #[.pointer none,.bool false]) w:=by
 rw[jS Tryz.underlying68 (z:=.pointer none) (λw=>by kernel_rfl) h.map (ei (a:=(i:Int)) (by omega)) (if_pos rfl) true];rfl
theorem B4:Calls Tryz.prog 24 #[aj a.wb,ag i] w λe w'=>e=.returned (.bool false)/\w=w':=by
 have is:=B9 zz a i recs w h hi n6;have hB:=h.aW;unfold bS at hB;have y4:=hB.cell 4;simp at y4;have lk:=m6 zz a i recs w h hi n6;clear h hB hi;go_enter Tryz.func24,Tryz.ntmps24;go_wp2_with fail;go_fit is;clear is;rintro e w1 ⟨rfl,rfl⟩;go_wp2;go_ret;exact⟨rfl,rfl⟩
theorem ry(ae:a4.zero.e6 recs)(aZ:∀r∈recs,0<r.enc.length/\r.enc.length<=4000)(hm:recs.length<=1000)(hf:(cU recs).length<=1048576):
 Calls Tryz.prog 15 #[aj a.wb,ag i] w λe w'=>(∃A c A2 c2,e=.returned (bT (a4.zero.run recs).aq A (a4.zero.run recs).list.length c A2 (a4.zero.run recs).ay.length c2))/\Below w w w':=by
 obtain⟨w0,ar⟩:=am (w.alloc (.cells (bp 0 aa aa) 49));have aI:ai w0 w 49 (bp 0 aa aa):=by rw[ar];exact ai.made _ _ _
 have aU:=aV ar;obtain⟨rb,bh⟩:=am w.heap.size;rw[<-bh]at aI;have bn:=Lib.hid bh;have aP:=aI.lt;have h0:=h.below aU;have is:=B9 zz a i recs w0 h0 hi n6;have lk:=m6 zz a i recs w0 h0 hi n6;have hB:=h0.aW;unfold bS at hB;have y4:=hB.cell 4;simp at y4;have nw:Calls Tryz.prog 19 #[ag 1048576] w0 _:=Dk.sl 1048576 w0 (Nat.le_refl _);obtain⟨db,off,q,dr,hA,hd,hD,hq⟩:=h0.eN;obtain⟨w1,aN⟩:=am (w0.alloc (.cells #[Y none 0 0,ag 0,ag 1048576] 114));have I:Dk.cY w1 w0 0 none [] 0 1048576:=by rw[aN];exact Dk.cY.made w0 0 1048576 (Nat.zero_le _) (Nat.le_refl _)
 have b1:=aV aN;have s1:w0.heap.size<w1.heap.size:=by rw[aN];simp
 obtain⟨nq,J⟩:=am w0.heap.size;rw[<-J]at I;have aE:=hB.below b1 hB.lt;have bb:=aE.cell 3;rw[hA]at bb;simp at bb;have ax:=World.block_lt_of_cell? w0 _ hd;have ak:w1.cell? ⟨db,off+i,none⟩=some (.pointer (aj q)):=by
  rw[World.cell?_of_block (w:=w0) (w':=w1) (a:=⟨db,off+i,none⟩) (b1.block db ax)];exact hd
 have af:Dk.cY w1 q 0 dr (cU recs) (cU recs).length zz.room:=cF hD (Goes.ao b1 λ_=>False) id (λ_ _ e=>e);have rd:=Dk.o3 q 0 _ _ dr _ w1 af;obtain⟨fl,a1⟩:=am (cU recs);rw[<-a1]at hD af rd hf;obtain⟨fn,M⟩:=am fl.length;rw[<-M]at rd;have bA:(i:Int)<(zz.n:Int):=by omega
 have bD:i<6:=by omega
 have HH:=Dc a1 M aU b1 J ae aZ hf I;clear h h0 hB aE hi hD af hq hd hA ax a1 M aU b1 ae aZ hf I bh;go_enter Tryz.func15,Tryz.ntmps15;go_wp2_with fail;rw[<-ar]
 try rw[<-bn.out]
 clear ar;go_wp2_with fail;go_fit is;clear is;rintro e w2 ⟨rfl,rfl⟩;go_wp2_with fail;go_fit nw;clear nw;rintro e w2 ⟨rfl,a8⟩;obtain rfl:w1=w2:=aN.trans a8;rw[<-J];clear aN a8 lk y4 J;go_wp2_with fail;go_fit rd;clear rd bb ak;rintro e w3 ⟨A3,c3,rfl,R3,b3⟩;obtain⟨a1,M,aU,b1,J,ae,aZ,hf,I⟩:=HH.out;have OD:Dk.cY w3 nq 0 none [] 0 1048576:=cF I (Goes.ao b3 λ_=>False) id (λ_ e=>by cases e);have ap:=Dk.nT A3 c3 nq 0 0 1048576 none [] fl w3 w3 OD (Nat.zero_le _) (Bytes.old (a6.eu (S:=λ_=>False) (by rw[M]at R3;exact R3) (λ_ h=>h.elim))) (by simpa using hf);rw[List.nil_append,<-M]at ap;have b0:=(aI.below b1 aI.lt).below b3 (by have:=aI.lt;have:=b1.size;omega);have aR:=di b3 b0;clear a1 M aU b1 J ae aZ hf I OD R3 aI b3 b0;go_wp2_with fail;go_fit ap;clear ap;rintro e w4 ⟨rfl,r4,ah,ad,aJ⟩;obtain⟨a1,M,aU,b1,J,ae,aZ,hf,I⟩:=HH.out;have t4:aw (λb=>b=nq) w3 w4:=⟨ad.os,ad.tape,ad.output,ad.size,λb a7 aL=>ad.block b a7 aL (λe=>by cases e)⟩;have aA:∀b,r4=some b->w3.heap.size<=b:=λb a7=>by
  rcases aJ with e | e | ⟨k,e,hk⟩
  ·rw[e]at a7;cases a7
  ·rw[e]at a7;cases a7
  ·rw[e]at a7;injection a7 with a7;omega
 have aH:∀b,(b=nq\/r4=some b)->b<w4.heap.size:=λb a7=>by
  obtain⟨A',c',e1,a5,e3,_⟩:=ah;rcases a7 with rfl | a7
  ·exact ai.lt (w:=w4) (t:=114) a5
  ·rw[e1]at a7;exact(e3.lt b a7).2
 have op:=pV (λb=>b<w4.heap.size) nq r4 (recs.map bG.enc) 0 1048576 w4 (λb a7=>a7) (by rw[a1]at ah;exact ah) (λp hp=>by
  obtain⟨r,hr,rfl⟩:=List.mem_map.1 hp;exact aZ r hr) aH
 have az:=di t4 aA;clear a1 M aU b1 J ae aZ hf I ah ad aJ t4 aA aH;go_wp2_with fail;go_fit op;clear op;rintro e w5 ⟨g,rr,rfl,hg,L5,G5⟩;have rc:=kC _ _ _ _ _ w5 L5 (by rw[List.length_map];exact hm);have aQ:=Lib.hid G5;clear L5 G5 hg;go_wp2_with fail;go_fit rc;clear rc;rintro e w6 ⟨v6,rfl,O6,b6⟩;obtain⟨A6,n6,bX,rfl,ca,cC⟩:=O6.form;have aB:n6=recs.length:=by rw[ca.out,List.length_map]
 have al:=s9 (λb=>b<w5.heap.size) A6 n6 bX recs w6 aB (by omega) (O6.slice (λ_ h=>h) (λ_ h=>h)) HH.out.2.2.2.2.2.1;have aD:=Lib.hid b6;clear O6 b6 ca aB;go_wp2_with fail;go_fit al;clear al;rintro e w7 ⟨vL,vP,rfl,pr,bt⟩;obtain⟨AL,nL,cL,rfl,bs,ba⟩:=pr.L.form;obtain⟨AP,nP,cP,rfl,bU,b9⟩:=pr.P.form;have aO:nL=(a4.zero.run recs).list.length:=bs.out;have aM:nP=(a4.zero.run recs).ay.length:=bU.out;obtain⟨lf,au⟩:=am ((a4.zero.run recs).aq);rw[<-au];have HE:=fm aO aM au;clear pr bs bU aO aM au;obtain⟨a1,M,aU,b1,J,ae,aZ,hf,I⟩:=HH.out;have aG:=bn.out;have t5:=aw.g5 aQ.out;have s0:=aU.size;have s3:=aR.out.1.size;have s4:=az.out.1.size;have s5:=t5.size;have aX:=az.out.1.aW aR.out.2 (λe=>by have e:rb=nq:=e;omega);have aF:=t5.aW aX (λe=>by
  rcases e with e | e
  ·omega
  ·have:=az.out.2 rb e;omega)
 have bP:=aF.below aD.out aF.lt;have ck:=bP.below bt bP.lt;have bC:=(Below.refl w7 w7).alloc (Nat.le_refl _) (.cells (bT lf AL nL cL AP nP cP) 49);have cv:=ck.below bC ck.lt;have cj:=cv.free 0;have cf:=cv.free 1;have cd:=cv.free 2;have bW:=cv.free 3;obtain⟨r0,r1,bf,r3⟩:=cv.c4;simp at r0 r1 bf r3;have aC:=cv.put 0 (av lf) |>.put 1 (Y AL nL cL) |>.put 2 (Y AP nP cP) |>.put 3 aa;simp only[List.setIfInBounds_toArray,List.set_cons_zero,List.set_cons_succ]at aC;have aK:aw (λb=>w.heap.size<=b) w (w7.alloc (.cells (bT lf AL nL cL AP nP cP) 49)):=by
  refine(((((((aw.ao aU λ_=>False).trans (aw.ao b1 λ_=>False) (λ_ _ e=>e)).trans (aw.ao aR.out.1 λ_=>False) (λ_ _ e=>e)).wide (G:=λb=>w.heap.size<=b) (λ_ _ e=>e.elim)).trans az.out.1 (λb _ e=>by have e:b=nq:=e;omega)).trans t5 (λb _ e=>?_)).trans ((aw.ao aD.out λ_=>False).trans (aw.ao bt λ_=>False) (λ_ _ e=>e)) (λ_ _ e=>e.elim)).trans (aw.ao bC λ_=>False) (λ_ _ e=>e.elim);rcases e with e | e
  ·omega
  ·have:=az.out.2 b e;omega
 have HT:=di aC aK;clear aG aK aC cv ck bP aF aX bC t5 a1 M aU b1 J ae aZ hf I bt;go_wp2_with fail
 try rw[Exit.noGoto_ret]
 refine bodyPost_ret (results_cell_row rfl _ _ rb 49 _ (0,0) _ rfl HT.out.1 Tryz.underlying49 rfl (by kernel_rfl)) rfl ?_;refine⟨⟨AL,cL,AP,cP,by rw[<-HE.out.1,<-HE.out.2.1,<-HE.out.2.2]⟩,?_⟩;refine(HT.out.2.trans (G:=λb=>b=rb) ?_ (λb _ e=>by have e:b=rb:=e;have:=bn.out;omega)).below (Nat.le_refl _) (λb _ e=>e);refine⟨rfl,rfl,rfl,by simp,λb a7 aL=>?_⟩;rw[Below.heap_setCell _ _ _ b aL,Below.heap_setCell _ _ _ b aL,Below.heap_setCell _ _ _ b aL,Below.heap_setCell _ _ _ b aL]
theorem BX(ae:a4.zero.e6 recs)(aZ:∀r∈recs,0<r.enc.length/\r.enc.length<=4000)(hm:recs.length<=1000)(hf:(cU recs).length<=1048576):
 Calls Tryz.prog 156 #[aj a.wb,ag i] w λe w'=>(∃k:Nat,e=.returned (ag k))/\Below w w w':=by
 have st:=ry zz a i recs w h hi n6 ae aZ hm hf;have up:=λ(w':World) (b:Below w w w')=>B4 zz a i recs w' (h.below b) hi n6;clear h hi ae aZ hm hf;go_enter Tryz.func156,Tryz.ntmps156;go_wp2_with fail;go_fit st;clear st;rintro e w1 ⟨⟨A,c,A2,c2,rfl⟩,b1⟩;obtain⟨J,aY⟩:=am ((a4.zero.run recs).aq);obtain⟨nn,a3⟩:=am ((a4.zero.run recs).list.length);obtain⟨np,ah⟩:=am ((a4.zero.run recs).ay.length);rw[<-aY,<-a3,<-ah];clear aY a3 ah;have I:=up w1 b1;have fd:=wy J A A2 nn c np c2;clear up;go_wp2_with fail;go_fit I;clear I;rintro e w2 ⟨rfl,rfl⟩;go_wp2;go_ret;exact⟨⟨_,rfl⟩,b1⟩
end
end
section
def p9:dD PId:=⟨3,λ_ _ u x=>u=x.cells,λh=>by rw[h];rfl,λh v hv=>by
 rw[h]at hv;simp only[PId.cells,List.mem_cons,List.not_mem_nil,or_false]at hv;rcases hv with rfl | rfl | rfl<;>rfl,λh _=>h⟩
theorem SliceAt.zt{α:Type}{r:dD α}{w:World}{S S':Nat->Prop}{A:Option Addr}{l:List α}(h:SliceAt r w S A l)(hr:∀u x,r.R w S u x->r.R w S' u x)(hA:∀b off,A=some ⟨b,off,none⟩->¬S b->¬S' b):SliceAt r w S' A l:=by
 obtain⟨us,h1,h2,a1⟩:=h;refine⟨us,?_,h2,λi u a hu ha=>hr u a (a1 i u a hu ha)⟩;rcases h1 with h1 | ⟨b,off,e,a7,hs,hc⟩
 ·exact .inl h1
 ·exact .inr ⟨b,off,e,a7,hA b off e hs,hc⟩
section
variable {w w' w0 w1 w9:World}{zz:aM}{bs iI:Nat->aC}{a a':WA}{cs j5:List Nat}{gs jQ:Array Value}{U U' O:Nat->Prop}{pb:Nat}{ids DF:List PId}
theorem bB.off(h:bB w zz bs a (λ_=>[]) cs gs)(t:aw O w w')(ho:∀b,a.hM zz.n b->¬O b):bB w' zz bs a (λ_=>[]) cs gs:=by
 have g:Goes (λb=>a.all zz.n b\/O b) w (a.all zz.n) w':=⟨t.os,t.tape,t.output,t.size,λb a7 aL=>t.aI b a7 (λe=>aL (.inr e)),λ_ _ e=>.inl e⟩;have J:∀b,a.all zz.n b->¬O b:=λb a7=>ho b (.inl a7);have f:=λb (a7:a.bj b)=>J b (.inr a7);refine⟨t.aW h.aW (f _ (.inl rfl)),h.ok,h.n6,?_,?_,?_,h.map.aI (t.aI _ h.map.lt (f _ (.inr (.inr (.inr (.inl rfl)))))),t.aW h.cur (f _ (.inr (.inr (.inr (.inr (.inl rfl)))))),h.cl,t.aW h.got (f _ (.inr (.inr (.inr (.inr (.inr rfl)))))),h.gl,
  λi hi=>(h.br i hi).ba t (λb a7=>J b (.inl (.inl ⟨i,hi,a7⟩))),h.apart,h.nr,h.fix,h.net.other t (f _ (.inr (.inl rfl))) (f _ (.inr (.inr (.inl rfl)))) (λx hx=>J x.c (.inl (.inr ⟨x,hx,rfl⟩))) (λx _ m hm=>absurd hm (by simp)),h.eJ,λx _ m hm=>absurd hm (by simp)⟩
 ·exact eS.goes (S:=λb=>a.all zz.n b\/O b) ⟨h.par.1,λb off e a7=>a7.elim (h.par.2 b off e) (ho b (.inr (.inl ⟨off,e⟩)))⟩ g
 ·exact(h.homes.zt (S':=λb=>a.all zz.n b\/O b) (λ_ _ h=>h) (λb off e aL a7=>a7.elim aL (ho b (.inr (.inr (.inl ⟨off,e⟩)))))).goes g
 ·exact(h.fF.zt (S':=λb=>a.all zz.n b\/O b) (λ_ _ h=>h) (λb off e aL a7=>a7.elim aL (ho b (.inr (.inr (.inr ⟨off,e⟩)))))).goes g
structure mH (zz:aM) (a:WA) (pb:Nat) (v:Value) (U:Nat->Prop):Prop where
 off:¬a.hM zz.n pb
 row:∀b,v.ownBlock=some b->¬a.hM zz.n b/\b≠pb
 all:∀b,a.hM zz.n b\/b=pb\/v.ownBlock=some b->U b
structure dp (w:World) (zz:aM) (bs:Nat->aC) (cs:List Nat) (gs:Array Value) (U:Nat->Prop) (pb:Nat) (ids:List PId):Prop where
 ex:∃ (a:WA) (v:Value),bB w zz bs a (λ_=>[]) cs gs/\ai w pb 108 #[aj a.wb,v]/\aD p9 32 w 0 (λ_=>False) v ids/\mH zz a pb v U
 lt:∀b,U b->b<w.heap.size
theorem dp.off(h:dp w zz bs cs gs U pb ids)(t:aw O w w')(ho:∀b,U b->¬O b):dp w' zz bs cs gs U pb ids:=by
 obtain⟨a,v,h1,h2,a1,h4⟩:=h.ex;have g:Goes O w O w':=⟨t.os,t.tape,t.output,t.size,t.aI,λ_ _ e=>e⟩;obtain⟨us,k1,k2,k3⟩:=a1;exact⟨⟨a,v,h1.off t (λb a7=>ho b (h4.all b (.inl a7))),t.aW h2 (ho pb (h4.all pb (.inr (.inl rfl)))),⟨us,cS k1 g (λb a7=>ho b (h4.all b (.inr (.inr a7)))),k2,k3⟩,h4⟩,λb a7=>Nat.lt_of_lt_of_le (h.lt b a7) t.size⟩
theorem dp.below(h:dp w zz bs cs gs U pb ids)(b:Below w w w'):dp w' zz bs cs gs U pb ids:=h.off (aw.ao b λ_=>False) (λ_ _ e=>e)
theorem dp.wide(h:dp w zz bs cs gs U pb ids)(hs:∀b,U b->U' b)(lt:∀b,U' b->b<w.heap.size):dp w zz bs cs gs U' pb ids:=by
 obtain⟨a,v,h1,h2,a1,h4⟩:=h.ex;exact⟨⟨a,v,h1,h2,a1,h4.off,h4.row,λb a7=>hs b (h4.all b a7)⟩,lt⟩
theorem mH.next{v:Value}(h2:ai w pb 108 #[aj a.wb,v])(a1:aD p9 32 w 0 (λ_=>False) v ids)(h4:mH zz a pb v U)(hU:∀b,U b->b<w.heap.size)
 (w1:bB w' zz iI a' (λ_=>[]) j5 jQ) (t:aw (a.all zz.n) w w') (ho:∀b,b<w.heap.size->a'.all zz.n b->a.all zz.n b) (e:a'.wb=a.wb/\a'.AP=a.AP/\a'.AH=a.AH/\a'.AD=a.AD):dp w' zz iI j5 jQ (New U w w') pb ids/\aw U w w':=by
 obtain⟨e1,a5,e3,e4⟩:=e;have old:∀b,b<w.heap.size->a'.hM zz.n b->a.hM zz.n b:=λb a7 hu=>by
  unfold WA.hM at hu ⊢;rw[a5,e3,e4]at hu;exact hu.imp (ho b a7) id
 have bl:=hU pb (h4.all pb (.inr (.inl rfl)));have aQ:∀b,v.ownBlock=some b->b<w.heap.size:=λb a7=>hU b (h4.all b (.inr (.inr a7)));have g:Goes (a.all zz.n) w (a.all zz.n) w':=⟨t.os,t.tape,t.output,t.size,t.aI,λ_ _ e=>e⟩;obtain⟨us,k1,k2,k3⟩:=a1;refine⟨⟨⟨a',v,w1,by rw[e1];exact t.aW h2 (λe=>h4.off (.inl e)),⟨us,cS k1 g (λb a7 e=>(h4.row b a7).1 (.inl e)),k2,k3⟩,λe=>h4.off (old pb bl e),λb a7=>⟨λe=>(h4.row b a7).1 (old b (aQ b a7) e),(h4.row b a7).2⟩,λb a7=>?_⟩,New.lt hU t.size⟩,t.wide (λb _ e=>h4.all b (.inl (.inl e)))⟩;by_cases bA:b<w.heap.size
 ·rcases a7 with a7 | a7
  ·exact .inl (h4.all b (.inl (old b bA a7)))
  ·exact .inl (h4.all b (.inr a7))
 ·rcases a7 with a7 | a7 | a7
  ·rcases a7 with a7 | a7
   ·refine .inr ⟨by omega,?_⟩;rcases a7 with a7 | a7
    ·exact w1.lt b a7
    ·exact w1.jn b a7
   ·refine .inl (h4.all b (.inl (.inr ?_)));rw[a5,e3,e4]at a7;exact a7
  ·exact absurd bl (by rw[<-a7];exact bA)
  ·exact absurd (aQ b a7) bA
theorem bR.jr{n:Nat}(f:bR n a w a' w'):aw (a.all n) w w'/\(∀b,b<w.heap.size->a'.all n b->a.all n b)/\(a'.wb=a.wb/\a'.AP=a.AP/\a'.AH=a.AH/\a'.AD=a.AD):=by
 refine⟨f.ba.wide (λb _ e=>.inl e),λb a7 e=>?_,f.bj.1,f.ap.1,f.ap.2,f.bj.2.2.2.2.2.2.1⟩;rcases e with e | e
 ·exact .inl (f.old b a7 e)
 ·right;unfold WA.bj at e ⊢;rw[f.bj.1,f.bj.2.1,f.bj.2.2.1,f.bj.2.2.2.1,f.bj.2.2.2.2.1,f.bj.2.2.2.2.2.1]at e;exact e
theorem aw.set{G:Nat->Prop}(h:aw G w w'){b:Nat}(a7:G b)(i:Nat)(v:Value):aw G w (w'.setCell ⟨b,i,none⟩ v):=
 h.trans (G:=G) ⟨rfl,rfl,rfl,by simp,λk _ aL=>Below.heap_setCell _ _ _ k (λe=>aL (by rw[e];exact a7))⟩ (λ_ _ e=>e)
theorem dp.fin(h1:dp w1 zz bs cs gs (New U w0 w1) pb ids)(hU:∀b,U b->b<w.heap.size)(aU:Below w w w0)(t1:aw U w0 w1)(t9:aw (λb=>w.heap.size<=b/\b<w0.heap.size) w1 w9):dp w9 zz bs cs gs (New U w w9) pb ids/\aw U w w9:=by
 have s0:=aU.size;have s9:=t9.size;have s1:=t1.size;refine⟨(h1.off t9 (λb a7 e=>?_)).wide (λb a7=>a7.imp id (λe=>⟨by omega,by omega⟩)) (λb a7=>a7.elim (λe=>by have:=hU b e;omega) (λe=>e.2)),?_⟩
 ·rcases a7 with a7 | a7
  ·have:=hU b a7;omega
  ·omega
 ·exact((aw.ao aU U).trans t1 (λ_ _ e=>e)).trans t9 (λb a7 e=>by omega)
end
end
end Go.Proofs.YtgblliofomgggaaGreat
