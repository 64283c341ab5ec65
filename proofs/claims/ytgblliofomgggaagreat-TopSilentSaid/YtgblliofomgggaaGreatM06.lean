import Derived.Deep.RegionHeld3
import Derived.Test.YtgblliofomgggaaGreatM01
import Derived.Test.YtgblliofomgggaaGreatM05
namespace Go.Proofs.YtgblliofomgggaaGreat
set_option maxRecDepth 100000
set_option maxHeartbeats 2000000
open Go.RowKit a7 bA
open Go.IntKind renaming i64 -> af,u64 -> ak
open Go.Value renaming int -> I,slice -> Y,pointer -> aL,agg -> aE
def e4(aX:List (List aO))(i:Nat):List UInt8:=((aX.take i).map λe=>Pk.aQ (c0 e)).flatten
theorem q0(aX:List (List aO))(i:Nat)(hi:i<aX.length):e4 aX (i+1)=e4 aX i++Pk.aQ (c0 aX[i]):=by
 unfold e4;rw[List.take_succ_eq_append_getElem hi,List.map_append,List.flatten_append];simp
theorem od{l:List (List UInt8)}{k:Nat}(h:∀a∈l,a.length<=k):l.flatten.length<=k*l.length:=by
 induction l with
 | nil=>simp
 | cons a l M=>
  have h1:=M (λb a7=>h b (by simp[a7]));have h2:=h a (by simp);rw[List.flatten_cons,List.length_append,List.length_cons,Nat.mul_succ];omega
theorem jm{aX:List (List aO)}(h:∀e∈aX,gM e=true/\∀a∈e,a.fits)(i:Nat)(hl:aX.length<=8):(e4 aX i).length<=12000:=by
 have:=od (l:=(aX.take i).map λe=>Pk.aQ (c0 e)) (k:=1490) (λa ha=>by
  simp only[List.mem_map]at ha;obtain⟨e,he,rfl⟩:=ha;obtain⟨h1,h2⟩:=h e (List.mem_of_mem_take he);have:=gx h1 h2;have:=cR (c0 e) (by omega);omega)
 simp only[List.length_map,List.length_take]at this;unfold e4;omega
theorem mP{w:World}{cb:Nat}{a b c d:Value}{l:List Value}(h:ai w cb 132 (a::b::c::d::l).toArray):w.cell? (aj cb)=some a/\w.cell? ⟨cb,1,none⟩=some b/\w.cell? ⟨cb,2,none⟩=some c/\w.cell? ⟨cb,3,none⟩=some d:=by
 refine⟨?_,?_,?_,?_⟩<;>(rw[h.cell];rfl)
theorem h4(S:Nat->Prop)(x:ae)(A:Option Addr)(c:Nat)(w:World)(hg:x.aH)(h:SliceAt aN w S A x.events):
 Calls Tryz.prog 176 #[aE (x.cellsOf A c).toArray] w λe w'=>∃u,e=.returned (.tuple #[u,ag 0])/\Row w' w u x.enc/\Below w w w':=by
 have ck:=λw h=>fV S x A c w hg h;obtain⟨kind,id,ah,sub,aX⟩:=x;have hk:=hg.kind;have hp:=hg.yw;have a3:=hg.none;have hid:=hg.id;have bc:=hg.ah;have aM:=hg.sub;have bk:=hg.len;have aB:=hg.ev;simp only at hk hp a3 hid bc aM bk aB h ck;clear hg;have bv:=hid.b;have cp:kind<=3:=by omega
 obtain⟨out,av⟩:=am ((⟨kind,id,ah,sub,aX⟩:ae).enc);rw[<-av];unfold ae.enc at av;simp only at av;unfold ae.cellsOf at ck ⊢;simp only at ck ⊢;obtain⟨m,hm⟩:=am aX.length;rw[<-hm]at ck bk av ⊢;obtain⟨w0,ar⟩:=am (w.alloc (.cells (eV kind id ah sub A m c) 132));have hC:ai w0 w 132 (eV kind id ah sub A m c):=by rw[ar];exact ai.made _ _ _
 have aU:=aV ar;have h0:=h.below aU;obtain⟨cb,M⟩:=am w.heap.size;rw[<-M]at hC;have aF:=Lib.hid M;have Bm:=ck w0 h0;have HM:=Lib.hid hm;have HO:=Lib.hid av;have HE:=Lib.hid aB;have HK:=fm hk hp a3;clear h M hm av aB hk hp a3 ck;have e8:(kind:Int) % 18446744073709551616=kind:=by omega
 go_enter Tryz.func176,Tryz.ntmps176;go_wp2_with fail;rw[<-ar,<-aF.out];clear ar;refine Bm.mono ?_;clear Bm;rintro e w1 ⟨rfl,b1⟩;have a6:=aU.trans (b1.mono aU.size);have ao:=hC.below b1 hC.lt;have h1:=h0.below b1;have n1:=b7 none 0 0 kind [] w1.drew rfl (by omega) (.inl rfl) (by omega);go_wp2_with fail;refine wp_region_held_drew (S:=(λw'=>w'.cell? (aj cb)=some (I af kind)/\w'.cell? ⟨cb,1,none⟩=some (I af id.au)/\w'.cell? ⟨cb,2,none⟩=some (I ak id.aq)/\w'.cell? ⟨cb,3,none⟩=some (I ak id.ax))) (by kernel_rfl) (mP ao) (λJ=>?_);refine tk 0 J ?_;refine tk 1 J ?_;refine tk 2 J ?_;refine tk 4 J ?_;refine tk 5 J ?_;refine aP 3 (λK ad=>?_);clear J;go_simp;rw[show IntKind.u64.wrap (kind:Int)=kind by rw[IntKind.wrap_u64];omega];refine n1.mono ?_;clear n1;rintro e w2 ⟨u2,rfl,bf,b2⟩;have b2:=a8 b2;have aI:=ao.below b2 ao.lt
 try dsimp only
 refine ad.out _ _ (mP aI) (λJ=>?_);clear ad K;refine aP 6 (λK ad=>?_);clear J;obtain⟨A2,m2,c2,rfl,a9,aT⟩:=bf.open_;have aS:m2<=9:=by rw[<-a9.out,List.nil_append];exact aG kind (by omega)
 have aZ:=Ax A2 m2 c2 id _ w2 a9.out hid bf.src.2 (by omega);unfold PId.val at aZ;go_simp;refine aZ.mono ?_;clear aZ;rintro e w3 ⟨u3,rfl,r3,b3⟩;have aw:=aI.below b3 aI.lt
 try dsimp only
 refine ad.out _ _ (mP aw) (λJ=>?_);clear ad K;refine aP 7 (λK ad=>?_);clear J;go_simp;refine ad.out _ _ (mP aw) (λJ=>?_);clear ad K;refine cB ?_ _;obtain⟨A3,m3,c3,rfl,aD,bY⟩:=r3.open_;have aa:m3<=36:=by rw[<-aD.out,List.length_append,a9.out];have:=PId.bZ hid;omega
 have br:=(a6.trans (b2.mono a6.size)).trans (b3.mono (Nat.le_trans a6.size b2.size));have a1:=(h1.below b2).below b3;clear bf J;have c4:=aw.cell 4;simp at c4;have n4:=b7 A3 m3 c3 ah _ w3 aD.out (by omega) r3.src.2 (by omega);have e8:(ah:Int) % 18446744073709551616=ah:=by omega
 go_wp2_with fail;refine n4.mono ?_;clear n4;rintro e w4 ⟨u4,rfl,r4,bK⟩;obtain⟨A4,m4,c4,rfl,aR,bd⟩:=r4.open_;have a2:m4<=45:=by rw[<-aR.out,List.length_append,aD.out];have:=aG ah (by omega);omega
 have aW:=aw.below bK aw.lt;have c5:=aW.cell 5;simp at c5;have bp:=br.trans (bK.mono br.size);have n5:=b7 A4 m4 c4 sub _ w4 aR.out aM r4.src.2 (by omega);go_wp2_with fail;refine n5.mono ?_;clear n5;rintro e w5 ⟨u5,rfl,r5,bS⟩;obtain⟨A5,m5,c5,rfl,a5,cA⟩:=r5.open_;have bg:m5<=54:=by rw[<-a5.out,List.length_append,aR.out];have:=aG sub aM;omega
 have aC:=aW.below bS aW.lt;have aJ:=bp.trans (bS.mono bp.size);have bi:=(a1.below bK).below bS;have a0:=r5.mono bp.size;have ba:=aC.cell 0;have bX:=aC.cell 6;have c7:=aC.cell 7;simp at ba bX c7;clear r3 r4 a9 aD aR aT bY bd b1 b2 b3 bK bS hC ao aI aw aW h0 h1 a1 e8;obtain⟨hd,aK⟩:=am ([]++Pk.az kind++id.enc++Pk.az ah++Pk.az sub);rw[<-aK]at r5 a0 a5;have HD:=Lib.hid aK;clear aK;rcases HK.out.1 with hk | hk | hk
 ·have g0:((kind:Int)==1)=true:=(by rw[beq_iff_eq];omega);have HX:Hid (out=hd++Pk.az m++(aX.map λe=>Pk.aQ (c0 e)).flatten):=by
   show out=_;rw[HO.out,HD.out,if_pos hk];simp
  have n6:=b7 A5 m5 c5 m hd w5 a5.out (by omega) r5.src.2 (by omega);have em:(m:Int) % 18446744073709551616=m:=(by omega);clear hk;go_wp2_with fail;refine n6.mono ?_;clear n6;rintro e w6 ⟨u6,rfl,r6,b6⟩;have aO:=aC.below b6 aC.lt;have d7:=aO.cell 7;simp at d7;have cN:=aJ.trans (b6.mono aJ.size);have h6:=bi.below b6;have bb:=r6.mono aJ.size;clear ba bX c7;go_wp2_with fail
  go_loopw [5,46] (λv_ i_ wr=>∃i:Nat,i_=I af i/\i<=m/\Row wr w v_ (hd++Pk.az m++e4 aX i)/\Below w6 w6 wr) (λ_ i _=>m- (intOf i).toNat)
  case atStart=>exact⟨0,rfl,by omega,by simpa[e4]using bb,.refl _ _⟩
  case round=>
   obtain⟨i,rfl,hi,hr,a7⟩:=hrel;have bq:=aO.below a7 aO.lt;by_cases bA:i<m
   ·have bu:i<aX.length:=(by have:=HM.out;omega);have bE:(i:Int)<(m:Int):=(by omega);have aY:=HE.out _ (List.getElem_mem bu);have HS:=Lib.hid (q0 aX i bu);have bh:=jm HE.out i (by have:=HM.out;omega);have bT:=gx aY.1 aY.2;obtain⟨b,off,u,rfl,bV,b8,bx,hcell,A2,c8,hu,h2⟩:=(h6.below a7).at_ bu (by decide);rw[hu]at hcell;have d8:wr.cell? ⟨b,off+i,none⟩=some (Y A2 aX[i].length c8):=(by simpa[aN]using hcell 0 _ rfl);have en:=oF S A2 aX[i].length c8 aX[i] wr rfl h2 aY.1;obtain⟨ev,aB⟩:=am (aX[i]);obtain⟨Ar,mr,cr,rfl,a4,bl⟩:=hr.open_;have bj:mr<=20000:=by
     rw[<-a4.out,List.length_append,List.length_append,a5.out];have:=aG m (by omega);omega
    rw[<-aB]at HS bT d8 en;clear hcell bx hu aB aY;go_wp2_with fail;refine en.mono ?_;clear en;rintro e w7 ⟨u7,rfl,r7,bt⟩;obtain⟨A7,m7,c7,rfl,aL,aA⟩:=r7.open_;have n7:=im Ar A7 mr cr m7 c7 _ _ w7 a4.out aL.out (hr.below bt).src.2 r7.src.2 (by omega) (by have:=aL.out;omega);go_wp2_with fail;refine n7.mono ?_;clear n7;rintro e w8 ⟨u8,rfl,r8,bB⟩;rw[List.append_assoc,<-HS.out]at r8;go_wp2
    go_round
    case rel=>exact⟨i+1,by go_num,by omega,r8.mono (by have:=cN.size;have:=a7.size;have:=bt.size;omega),a7.trans ((bt.trans (bB.mono bt.size)).mono a7.size)⟩
    case measure=>simp[intOf];omega
   ·obtain rfl:i=m:=(by omega);have HY:Hid (out=hd++Pk.az i++e4 aX i):=by
     show out=_;rw[HX.out];unfold e4;rw[HM.out,List.take_length]
    go_wp2;go_ret2;exact⟨_,rfl,by rw[HY.out];exact hr,cN.trans (a7.mono cN.size)⟩
 ·have g0:((kind:Int)==1)=false:=(by rw[beq_eq_false_iff_ne];omega);have g1:((kind:Int)==2)=true:=(by rw[beq_iff_eq];omega);have HX:Hid (out=hd++Pk.aQ (Pk.az 0)):=by
   show out=_;rw[HO.out,HD.out,if_neg (by omega),if_pos hk];simp
  have n6:=nw w5;clear hk;go_wp2_with fail;refine n6.mono ?_;clear n6;rintro e w6 ⟨u6,rfl,r6,b6⟩;obtain⟨A6,m6,bX,rfl,bm,cC⟩:=r6.open_;have n7:=im A5 A6 m5 c5 m6 bX _ _ w6 a5.out bm.out (r5.below b6).src.2 r6.src.2 (by omega) (by have:=aG 0 (by omega);have:=bm.out;omega);go_wp2_with fail;refine n7.mono ?_;clear n7;rintro e w7 ⟨u7,rfl,r7,bt⟩;have ay:=b6.trans (bt.mono b6.size);go_wp2;go_ret2;exact⟨_,rfl,by rw[HX.out];exact r7.mono (Nat.le_trans aJ.size b6.size),aJ.trans (ay.mono aJ.size)⟩
 ·have g0:((kind:Int)==1)=false:=(by rw[beq_eq_false_iff_ne];omega);have g1:((kind:Int)==2)=false:=(by rw[beq_eq_false_iff_ne];omega);have HX:Hid (out=hd):=by
   show out=_;rw[HO.out,HD.out,if_neg (by omega),if_neg (by omega)];simp
  clear hk;go_wp2;go_ret2;exact⟨_,rfl,by rw[HX.out];exact a0,aJ⟩
section
theorem dD.weak{α:Type}(r:dD α){w:World}{S S':Nat->Prop}{u:List Value}{a:α}(h:r.R w S u a)(hs:∀b,S' b->S b):r.R w S' u a:=
 r.goes h ⟨rfl,rfl,rfl,Nat.le_refl _,λ_ _ _=>rfl,λb _ a7=>hs b a7⟩
def bm(S:Nat->Prop)(v:Value):Nat->Prop:=λb=>S b\/v.ownBlock=some b
theorem Goes.plus{S S':Nat->Prop}{w w':World}(g:Goes S w S' w')(v:Value):Goes (bm S v) w (bm S' v) w':=
 ⟨g.os,g.tape,g.output,g.size,λb a7 aL=>g.aI b a7 (λe=>aL (.inl e)),λb a7 hs=>hs.elim (λe=>.inl (g.only b a7 e)) .inr⟩
def aD{α:Type}(r:dD α)(e:TypeId)(w:World)(base:Nat)(S:Nat->Prop)(v:Value)(l:List α):Prop:=
 ∃us:List (List Value),w.ownsRow base e r.k v l.length us.flatten/\us.length=l.length/\∀ (i:Nat) (u:List Value) (a:α),us[i]? =some u->l[i]? =some a->r.R w (bm S v) u a
section
variable {α:Type}{r:dD α}{e:TypeId}{w w':World}{base:Nat}{S S':Nat->Prop}{v:Value}{l:List α}
theorem aD.nil(r:dD α)(e:TypeId)(w:World)(base:Nat)(S:Nat->Prop):aD r e w base S aa []:=
 ⟨[],⟨by simp,.inl ⟨rfl,rfl⟩⟩,rfl,λi u a h=>by simp at h⟩
theorem aD.goes(h:aD r e w base S v l)(g:Goes S w S' w')(hv:∀b,v.ownBlock=some b->¬S b):aD r e w' base S' v l:=by
 obtain⟨us,h1,h2,a1⟩:=h;exact⟨us,cS h1 g hv,h2,λi u a hu ha=>r.goes (a1 i u a hu ha) (g.plus v)⟩
theorem aD.below(h:aD r e w base S v l)(a7:Below w w w'):aD r e w' base S v l:=by
 obtain⟨us,h1,h2,a1⟩:=h;exact⟨us,aT h1 a7,h2,λi u a hu ha=>r.goes (a1 i u a hu ha) ((Goes.ao a7 S).plus v)⟩
theorem aD.form(h:aD r e w base S v l):∃A n c,v=Y A n c/\Hid (n=l.length)/\n<=c:=by
 obtain⟨us,h1,_⟩:=h;obtain⟨A,c,rfl⟩:=eH h1;exact⟨A,_,c,rfl,(rfl:_=_),fR h1⟩
theorem aD.lt(h:aD r e w base S v l){g:Nat}(hg:v.ownBlock=some g):base<=g/\g<w.heap.size:=by
 obtain⟨us,h1,_⟩:=h;exact h1.lt g hg
theorem aD.ne(h:aD r e w base S v l){g:Nat}{t:TypeId}{cs:Array Value}(a7:ai w g t cs)(ay:e≠t):v.ownBlock≠some g:=by
 obtain⟨us,h1,_⟩:=h;exact λe=>a7.cx h1 ay e.symm
theorem aD.slice{A:Option Addr}{n c:Nat}(h:aD r e w base S (Y A n c) l)(hs:∀b,S' b->S b)(a7:∀b,S' b->b<base):SliceAt r w S' A l:=by
 obtain⟨us,h1,h2,a1⟩:=h;obtain rfl:n=l.length:=by
  obtain⟨_,_,hv⟩:=eH h1;injection hv
 exact .eu h1 a7 h2 (λi u a hu ha=>r.weak (a1 i u a hu ha) (λb a7=>.inl (hs b a7)))
theorem aD.weak(h:aD r e w base S v l)(hs:∀b,S' b->S b):aD r e w base S' v l:=by
 obtain⟨us,h1,h2,a1⟩:=h;exact⟨us,h1,h2,λi u a hu ha=>r.weak (a1 i u a hu ha) (λb a7=>a7.elim (λe=>.inl (hs b e)) .inr)⟩
theorem aD.mono{base':Nat}(h:aD r e w base S v l)(a7:base'<=base):aD r e w base' S v l:=by
 obtain⟨us,h1,h2,a1⟩:=h;exact⟨us,dt h1 a7,h2,a1⟩
end
section
variable {α:Type}{P:Program}(w:World)
theorem a9{ops:Array Oper}{rest:List Oper}{o:Oper}{a:Act}{Q:Exit->Act->World->Prop}(ae:o.guard=none)(s x:Operand)(t:TypeId)
 (ho:o.op=.call {callee:=.builtin .append,args:=#[s,x],argTypes:=#[t,t]})
 (r:dD α) (base:Nat) (e:TypeId) (i:TypeInfo) (z:Value) (bytes:Nat) (ht:P.underlying t=some (.slice e)) (hi:P.info? e=some i) (hz:i.zero=some z)
 (M:i.size=r.k) (bR:i.bytes=bytes) (bB:z.cells.size=r.k) (hk:0<r.k)
 (S:Nat->Prop) (v:Value) (l:List α) (hs:a.eval s=v) (J:aD r e w base S v l)
 (A:Option Addr) (c:Nat) (u:List Value) (b:α) (hx:a.eval x=Y A 1 c) (hr:Src w A u) (aI:r.R w (bm S v) u b)
 (af:l.length+1<=maxLen) (I:(l.length+1)*bytes<=140737488355328) (av:base<=w.heap.size)
 (h:∀A' c' w',aD r e w' base S (Y A' (l.length+1) c') (l++[b])->Goes (bm S v) w (bm S (Y A' (l.length+1) c')) w'->w.grownBy w' v.ownBlock->((Value.slice A' (l.length+1) c').ownBlock=v.ownBlock\/(Value.slice A' (l.length+1) c').ownBlock=some w.heap.size)->wpList P ops Q rest (a.put o.dst (Y A' (l.length+1) c')) w'):wpList P ops Q (o::rest) a w:=by
 obtain⟨us,h1,h2,a1⟩:=J;refine ca w ae s x t ho base r.k e i z bytes ht hi hz M bR bB hk v l.length us.flatten hs h1 A 1 c u hx (by rw[r.len aI,Nat.one_mul]) hr (r.one aI) af I av ?_;intro A' c' w' h4 gr ah;have hG:Goes (bm S v) w (bm S (Y A' (l.length+1) c')) w':=⟨gr.os,gr.tape,gr.output,gr.size,λk hk aL=>gr.block k hk (λe=>aL (.inr e.symm)),λk hk hs=>hs.elim .inl (λe=>by
  rcases ah with ah | ah
  ·exact .inr (ah.symm.trans e)
  ·rw[ah]at e;injection e with e;omega)⟩
 refine h A' c' w' ⟨us++[u],?_,by simp[h2],λj u' a' hu ha=>?_⟩ hG gr ah
 ·rw[List.length_append,List.flatten_append];simpa using h4
 ·by_cases hj:j<us.length
  ·rw[List.getElem?_append_left hj]at hu;rw[List.getElem?_append_left (by omega)]at ha;exact r.goes (a1 j u' a' hu ha) hG
  ·have bF:j=us.length:=by
    have:=(List.getElem?_eq_some_iff.1 hu).1;simp at this;omega
   subst bF;rw[List.getElem?_append_right (Nat.le_refl _),Nat.sub_self]at hu;rw[h2,List.getElem?_append_right (Nat.le_refl _),Nat.sub_self]at ha;injection hu with hu;injection ha with ha;subst hu;subst ha;exact r.goes aI hG
end
end
section
def gC:List Value:=[I af 0,I af 0,I ak 0,I ak 0,I af 0,I ak 0,aa,aa]
structure DS (t:TypeId) (zero:List Value) (w:World) (T:Nat->Prop) (q xb rb:Nat) (wr:World) (cs:List Value) (rest:List UInt8):Prop where
 rd:cv wr T q rest
 x:ai wr xb t cs.toArray
 r:ai wr rb t zero.toArray
 b:Below w w wr
 xq:xb≠q
 rq:rb≠q
 xr:xb≠rb
 hq:w.heap.size<=q
 hx:w.heap.size<=xb
 tx:T xb
 tq:T q
section
variable {t:TypeId}{zero:List Value}{w wr w':World}{T:Nat->Prop}{q xb rb:Nat}{cs:List Value}{rest iP:List UInt8}
theorem DS.read(h:DS t zero w T q xb rb wr cs rest)(g:Goes (cC q) wr (cC q) w')(rd:cv w' T q iP):DS t zero w T q xb rb w' cs iP:=
 ⟨rd,h.x.goes g h.xq,h.r.goes g h.rq,h.b.trans (jk g h.b.size (λb e=>by have:=h.hq;have e:b=q:=e;omega)),h.xq,h.rq,h.xr,h.hq,h.hx,h.tx,h.tq⟩
theorem DS.grown(h:DS t zero w T q xb rb wr cs rest)(g:wr.grownBy w' (some q))(rd:cv w' T q iP):DS t zero w T q xb rb w' cs iP:=
 h.read (aJ g rfl) rd
theorem DS.below(h:DS t zero w T q xb rb wr cs rest)(g:Below wr wr w'):DS t zero w T q xb rb w' cs rest:=
 ⟨h.rd.below g,h.x.below g h.x.lt,h.r.below g h.r.lt,h.b.trans (g.mono h.b.size),h.xq,h.rq,h.xr,h.hq,h.hx,h.tx,h.tq⟩
theorem DS.put(h:DS t zero w T q xb rb wr cs rest)(i:Nat)(u:Value):DS t zero w T q xb rb (wr.setCell ⟨xb,i,none⟩ u) (cs.set i u) rest:=
 ⟨h.rd.put h.xq h.tx i u,by simpa using h.x.put i u,h.r.dA (λe=>h.xr e.symm) u,h.b.grown (aR wr xb i u) h.b.size (λk e=>by injection e with e;have:=h.hx;omega),h.xq,h.rq,h.xr,h.hq,h.hx,h.tx,h.tq⟩
theorem DS.app{row:Option Nat}(h:DS t zero w T q xb rb wr cs rest)(g:wr.grownBy w' row)(hr:∀k,row=some k->k≠q/\k≠xb/\k≠rb/\T k/\w.heap.size<=k):DS t zero w T q xb rb w' cs rest:=
 ⟨h.rd.app g (λk hk=>⟨(hr k hk).1,(hr k hk).2.2.2.1⟩),h.x.grown g (λe=>(hr xb e.symm).2.1 rfl),h.r.grown g (λe=>(hr rb e.symm).2.2.1 rfl),h.b.grown g h.b.size (λk hk=>(hr k hk).2.2.2.2),h.xq,h.rq,h.xr,h.hq,h.hx,h.tx,h.tq⟩
end
theorem xn(k:Int):(Program.built Tryz.prog 132 [(0,I af k)]).map Array.toList=some [I af k,I af 0,I ak 0,I ak 0,I af 0,I ak 0,aa,aa]:=by kernel_rfl
theorem xI(k:Int)(w:World):(Instr.build 132 #[(0,I af k)]).run Tryz.prog w=.ok (aE #[ag k,ag 0,av 0,av 0,ag 0,av 0,aa,aa]) w:=by
 obtain⟨cs,h1,h2⟩:=Option.map_eq_some_iff.1 (xn k);rw[run_build w 132 _ cs h1];rw[show cs=#[I af k,I af 0,I ak 0,I ak 0,I af 0,I ak 0,aa,aa] from Array.toList_inj.1 h2]
theorem Tryz.iE:(Tryz.prog.info? 39).map (λi=>(i.zero.map (λz=>z.cells.size),i.size,i.bytes))=some (some 1,1,24):=by kernel_rfl
def gH(kind:Nat)(aX:List (List aO)):List UInt8:=if kind=1 then Pk.az aX.length++e4 aX aX.length else if kind=2 then Pk.aQ (Pk.az 0)else []
theorem iX{kind:Nat}{aX:List (List aO)}(h:∀e∈aX,gM e=true/\∀a∈e,a.fits)(hl:aX.length<=8):(gH kind aX).length<=13000:=by
 unfold gH;split
 ·rw[List.length_append];have:=aG aX.length (by omega);have:=jm h aX.length hl;omega
 ·split
  ·have:=aG 0 (by omega);have:=cR (Pk.az 0) (by omega);omega
  ·simp
theorem ae.vy(x:ae):x.enc=Pk.az x.kind++(x.id.enc++(Pk.az x.ah++(Pk.az x.sub++gH x.kind x.events))):=by
 unfold ae.enc gH e4;rw[List.take_length];simp
theorem SliceAt.weak{α:Type}{r:dD α}{w:World}{S S':Nat->Prop}{A:Option Addr}{l:List α}(h:SliceAt r w S A l)(hs:∀b,S' b->S b):SliceAt r w S' A l:=by
 obtain⟨us,h1,h2,a1⟩:=h;exact⟨us,h1.weak hs,h2,λi u a hu ha=>r.weak (a1 i u a hu ha) hs⟩
theorem bI{P:Program}{fn:Func}{p u:Tmp}{ty:TypeId}(h:fn.results=#[.cell p ty,.tmp u])(tmps:Array Value)(w:World)(g:Nat)(t:TypeId)(cs:Array Value)(fr:Nat×Nat)(d:TypeDesc)
 (hp:tmps.getD p undef=.pointer (aj g)) (hg:w.heap[g]? =some (.cells cs t fr))
 (hu:P.underlying ty=some d) (hd:(match d with | .struct _ | .array _ _=>true | _=>false)=true) (hi:(P.info? ty).map (·.size)=some cs.size):
 (results fn tmps).run P w=.ok (.tuple #[aE cs,tmps.getD u undef]) w:=by
 rw[results_cell_tmp h,hp];simp[asAddr,run_loadVar_row w g t ty cs fr d hg hu hd hi,Result.andThen]
theorem bX{w w' w'':World}{row:Option Nat}(h:w.grownBy w' row)(k:w'.grownBy w'' row):w.grownBy w'' row:=
 ⟨k.os.trans h.os,k.tape.trans h.tape,k.output.trans h.output,Nat.le_trans h.size k.size,λb a7 aL=>(k.block b (Nat.lt_of_lt_of_le a7 h.size) aL).trans (h.block b a7 aL)⟩
def vU(w:World)(g:Nat):(_:Nat)->List Value->World
 | _,[]=>w
 | i,u::us=>vU (w.setCell ⟨g,i,none⟩ u) g (i+1) us
theorem bl(g:Nat):∀ (us:List Value) (w:World) (i:Nat),w.grownBy (vU w g i us) (some g)
 | [],w,_=>World.grownBy.refl w _
 | u::us,w,i=>bX (aR w g i u) (bl g us _ (i+1))
def ed(aX:List (List aO))(i:Nat):List UInt8:=((aX.drop i).map λe=>Pk.aQ (c0 e)).flatten
theorem oL(aX:List (List aO)):e4 aX aX.length=ed aX 0:=by simp[e4,ed]
theorem oN(aX:List (List aO))(i:Nat)(hi:i<aX.length):ed aX i=Pk.aQ (c0 aX[i])++ed aX (i+1):=by
 unfold ed;rw[List.drop_eq_getElem_cons hi,List.map_cons,List.flatten_cons]
theorem iW{aX:List (List aO)}(h:∀e∈aX,gM e=true/\∀a∈e,a.fits)(i:Nat)(hl:aX.length<=8):(ed aX i).length<=12000:=by
 have:=od (l:=(aX.drop i).map λe=>Pk.aQ (c0 e)) (k:=1490) (λa ha=>by
  simp only[List.mem_map]at ha;obtain⟨e,he,rfl⟩:=ha;obtain⟨h1,h2⟩:=h e (List.mem_of_mem_drop he);have:=gx h1 h2;have:=cR (c0 e) (by omega);omega)
 simp only[List.length_map,List.length_drop]at this;unfold ed;omega
theorem x5{aX:List (List aO)}{e:List aO}(h:e∈aX):(c0 e).length<=(ed aX 0).length:=by
 have h1:Pk.aQ (c0 e)∈(aX.drop 0).map λe=>Pk.aQ (c0 e):=List.mem_map.2 ⟨e,by simpa using h,rfl⟩;have h2:=(List.sublist_flatten_of_mem h1).length_le;have a1:(Pk.aQ (c0 e)).length=(Pk.az (c0 e).length).length+(c0 e).length:=by unfold Pk.aQ;rw[List.length_append]
 unfold ed;omega
theorem vF{P:Prop}(h:P:=by
 refine bodyPost_ret (bI rfl _ _ rb 132 _ (0,0) _ rfl RZ Tryz.underlying132 rfl (by kernel_rfl)) rfl ?_;exact⟨_,_,rfl,λS hS=>(((SL (λb=>S b\/b=rb) (λb a7=>a7.elim (λe=>.inl (hS b e)) .inr)).below cm).goes (aJ gz (.inr rfl))).weak (λb a7=>.inl a7),J.b.grown gz J.b.size (λk e=>by injection e with e;rw[<-e,bn.out];exact Nat.le_refl _)⟩
 ):P:=h
theorem wh{P:Prop}(h:P:=by
 clear y0 y1 y2 bb y4 y5 y6 y7;have y0:=J.x.cell 0;have y1:=J.x.cell 1;have y2:=J.x.cell 2;have bb:=J.x.cell 3;have y4:=J.x.cell 4;have y5:=J.x.cell 5;have y6:=J.x.cell 6;have y7:=J.x.cell 7;have v0:=J.r.cell 0;have v1:=J.r.cell 1;have v2:=J.r.cell 2;have v3:=J.r.cell 3;have v4:=J.r.cell 4;have v5:=J.r.cell 5;have v6:=J.r.cell 6;have v7:=J.r.cell 7;have f0:=J.r.free 0;have f1:=J.r.free 1;have f2:=J.r.free 2;have f3:=J.r.free 3;have f4:=J.r.free 4;have f5:=J.r.free 5;have f6:=J.r.free 6;have f7:=J.r.free 7;simp[gC]at y0 v0 y1 v1 y2 v2 bb v3 y4 v4 y5 v5 y6 v6 y7 v7;go_wp2_with fail;have RZ:=((((((((J.r.put 0 (ag kind)).put 1 (ag id.au)).put 2 (av id.aq)).put 3 (av id.ax)).put 4 (ag ah)).put 5 (av sub)).put 6 aa).put 7 aa);simp only[gC,List.setIfInBounds_toArray,List.set_cons_zero,List.set_cons_succ]at RZ;have gz:=bl rb [(I af kind),(I af id.au),(I ak id.aq),(I ak id.ax),(I af ah),(I ak sub),aa,aa] wf 0;exact vF
 ):P:=h
theorem h7(A:Option Addr)(n c:Nat)(x:ae)(w:World)(aL:x.enc.length=n)(h:Src w A (aA x.enc))(hg:x.aH):
 Calls Tryz.prog 131 #[Y A n c] w λe w'=>∃A' c',e=.returned (.tuple #[aE (x.cellsOf A' c').toArray,ag 0])/\(∀S:Nat->Prop,(∀b,S b->b<w.heap.size)->SliceAt aN w' S A' x.events)/\Below w w w':=by
 have hE:=x.vy;have cO:=iX (kind:=x.kind) hg.ev hg.len;have ck:=λ(w:World) S A c h=>fV S x A c w hg h;obtain⟨kind,id,ah,sub,aX⟩:=x;have hk:=hg.kind;have hp:=hg.yw;have a3:=hg.none;have hid:=hg.id;have bc:=hg.ah;have aM:=hg.sub;have bk:=hg.len;have aB:=hg.ev;simp only at hk hp a3 hid bc aM bk aB hE cO ck;clear hg;have bv:=hid.b;have cp:kind<=3:=by omega
 have L1:=aG kind (by omega);have L2:=PId.bZ hid;have L3:=aG ah (by omega);have L4:=aG sub aM;have aO:n<=13100:=by
  rw[<-aL,hE];simp only[List.length_append];omega
 unfold ae.cellsOf at ck ⊢;simp only at ck ⊢;obtain⟨tail,cg⟩:=am (gH kind aX);rw[<-cg]at hE cO;obtain⟨w0,ar⟩:=am (w.alloc (.cells cZ 132));have ay:ai w0 w 132 gC.toArray:=by rw[ar];exact ai.made _ _ _
 have aU:=aV ar;have aC:Src w0 A (aA (⟨kind,id,ah,sub,aX⟩:ae).enc):=by
  rcases h with h | ⟨b,off,e1,hc⟩
  ·exact .inl h
  ·exact .inr ⟨b,off,e1,λj u hu=>(aU.cell (p:=⟨b,off+j,none⟩) (World.block_lt_of_cell? w _ (hc j u hu))).trans (hc j u hu)⟩
 have new:=ek A n c _ w0 aL aC (by omega) (λ_=>False) (λ_ h=>h.elim);rw[hE]at new aL;have cc:=Lib.hid aL;obtain⟨i0,z0,bM,bL,bB,bJ,bR⟩:=aS Tryz.iE;obtain⟨rb,bh⟩:=am w.heap.size;rw[<-bh]at ay;have bn:=Lib.hid bh;have HT:=Lib.hid cg;have HE:=Lib.hid aB;have HK:=fm hk hp a3;clear h aC aL hE cg aB hk hp a3 bh;go_enter Tryz.func131,Tryz.ntmps131;go_wp2_with fail;rw[<-ar,<-bn.out];clear ar;refine new.mono ?_;clear new;rintro e w1 ⟨q,rfl,hq,ba,b1⟩;have bz:=ay.below b1 ay.lt;have ch:=Lib.hid bz.lt;have ba:=ba.up (.inr rfl);have a6:=aU.trans (b1.mono aU.size);have bH:=Lib.hid a6.size;have bx:w.heap.size<=q:=Nat.le_trans aU.size hq;have bq:rb≠q:=by have:=ay.lt;omega
 have aZ:=fp _ q kind 4 _ w1 (.inl rfl) (by omega) (by omega) ba (by simp only[List.length_append];omega);go_wp2_with fail;refine aZ.mono ?_;clear aZ;rintro e w2 ⟨rfl,ao,g2⟩;have bN:ai w2 rb 132 _:=bz.grown g2 (λe=>by injection e with e;omega);have bo:Below w w w2:=a6.grown g2 a6.size (λk e=>by injection e with e;omega);obtain⟨w3,bd⟩:=am (w2.alloc (.cells #[ag kind,ag 0,av 0,av 0,ag 0,av 0,aa,aa] 132));have b3:=aV bd;obtain⟨xb,a0⟩:=am w2.heap.size;have hB:w1.heap.size<=xb:=by rw[a0];exact g2.size
 have bQ:=ao.h5;have D3:DS 132 gC w (λb=>b=q\/w1.heap.size<=b) q xb rb w3 [ag kind,ag 0,av 0,av 0,ag 0,av 0,aa,aa] _:=
  ⟨ao.below b3,by rw[bd,a0];exact ai.made _ _ _,bN.below b3 bN.lt,bo.trans (b3.mono bo.size),by omega,bq,by have:=bN.lt;omega,bx,by have:=bo.size;omega,.inr hB,.inl rfl⟩
 go_wp2_with (refine en rfl 132 _ rfl #[(0,I af kind)] rfl _ (xI _ w2) ?_);rw[<-bd,<-a0];have b6:=Lib.hid a0;clear bd a0 b3 bo bN ao g2 a6 bz b1 aU ay ba;have n4:=yI _ q id _ w3 D3.tq hid D3.rd (by simp only[List.length_append];omega);unfold PId.val at n4;refine n4.mono ?_;clear n4;rintro e w4 ⟨rfl,bp,g4⟩;have D4:=D3.read g4 bp;clear D3 g4 bp;have bg:=D4.x.cell 1;have a2:=D4.x.cell 2;have bG:=D4.x.cell 3;have bV:=D4.x.free 1;have b5:=D4.x.free 2;have bY:=D4.x.free 3;simp at bg a2 bG;have D5:=((D4.put 1 (ag id.au)).put 2 (av id.aq)).put 3 (av id.ax);simp only[List.set_cons_zero,List.set_cons_succ]at D5;clear D4;go_wp2_with fail;obtain⟨w5,a8⟩:=am (((w4.setCell ⟨xb,1,none⟩ (ag id.au)).setCell ⟨xb,2,none⟩ (av id.aq)).setCell ⟨xb,3,none⟩ (av id.ax));rw[<-a8]at D5 ⊢;clear a8 bg a2 bG bV b5 bY;have n6:=fp _ q ah 32 _ w5 D5.tq (by omega) (by omega) D5.rd (by simp only[List.length_append];omega);refine n6.mono ?_;clear n6;rintro e w6 ⟨rfl,b2,g6⟩;have D6:=D5.grown g6 b2;clear D5 g6 b2;have bw:=D6.x.cell 4;have b8:=D6.x.free 4;simp at bw;have D7:=D6.put 4 (ag ah);simp only[List.set_cons_zero,List.set_cons_succ]at D7;clear D6;go_wp2_with fail;obtain⟨w7,bf⟩:=am (w6.setCell ⟨xb,4,none⟩ (ag ah));rw[<-bf]at D7 ⊢;clear bf bw b8;have bK:=cM _ q sub _ w7 D7.tq aM D7.rd (by omega);refine bK.mono ?_;clear bK;rintro e w8 ⟨rfl,cQ,cP⟩;have D8:=D7.grown cP cQ;clear D7 cP cQ;have bO:=D8.x.cell 5;have ca:=D8.x.free 5;simp at bO;have M:=D8.put 5 (av sub);simp only[List.set_cons_zero,List.set_cons_succ]at M;have z0:=M.x.cell 0;simp at z0;clear D8;obtain⟨w9,br⟩:=am (w8.setCell ⟨xb,5,none⟩ (av sub));rw[<-br]at M z0;have cl:=Lib.hid br;clear br;rcases HK.out.1 with hk | hk | hk
 ·have g0:((kind:Int)==1)=true:=(by rw[beq_iff_eq];omega);have ht:tail=Pk.az aX.length++ed aX 0:=by
   rw[HT.out,<-oL];unfold gH;rw[if_pos hk]
  have cC:∀e∈aX,(c0 e).length<=n:=λe he=>by
   have h1:=x5 he;rw[<-cc.out,ht];simp only[List.length_append];omega
  rw[ht]at M;have cr:=fp _ q aX.length 9 _ w9 M.tq (by omega) (by omega) M.rd (by have:=iW HE.out 0 bk;omega);have cT:=Lib.hid cC;clear ht hk cC;rw[cl.out]at z0;go_wp2_with fail;rw[<-cl.out];clear z0;refine cr.mono ?_;clear cr;rintro e bs ⟨rfl,b9,bW⟩;have ad:=M.grown bW b9;clear M bW b9;go_wp2_with fail;obtain⟨S0,cy⟩:∃S0:Nat->Prop,S0=λb=>b<w.heap.size\/b=q\/b=xb\/b=rb:=⟨_,rfl⟩;have b7:=Lib.hid cy;have cS:S0 q:=(by rw[cy];exact .inr (.inl rfl));have cv:S0 xb:=(by rw[cy];exact .inr (.inr (.inl rfl)));clear cy
  go_loopw [30] (λi_ wr=>∃ (i:Nat) (v:Value),i_=I af i/\i<=aX.length/\DS 132 gC w (λb=>b=q\/w1.heap.size<=b) q xb rb wr [ag kind,ag id.au,av id.aq,av id.ax,ag ah,av sub,aa,v] (ed aX i)/\aD aN 39 wr w1 S0 v (aX.take i)/\w1.heap.size<=wr.heap.size) (λi _=>aX.length- (intOf i).toNat)
  case atStart=>exact⟨0,aa,rfl,by omega,ad,aD.nil _ _ _ _ _,by have:=ad.x.lt;omega⟩
  case round=>
   obtain⟨i,v,rfl,hi,D,O,cF⟩:=hrel;by_cases bu:i<aX.length
   ·have aY:=HE.out _ (List.getElem_mem bu);have bA:=cT.out _ (List.getElem_mem bu);have aw:=oN aX i bu;have a4:Hid (aX.take (i+1)=aX.take i++[aX[i]]):=List.take_succ_eq_append_getElem bu;obtain⟨ev,aB⟩:=am (aX[i]);rw[<-aB]at aY bA aw a4;have bT:=gx aY.1 aY.2;rw[aw]at D;have cn:∀ (wx:World) (vx:Value) cs rest lx,DS 132 gC w (λb=>b=q\/w1.heap.size<=b) q xb rb wx cs rest->aD aN 39 wx w1 S0 vx lx->∀b,vx.ownBlock=some b->¬S0 b:=λwx vx cs rest lx D O b a7=>by
     obtain⟨_,_,_,bS,_⟩:=D.rd;have e1:=O.ne bS (by decide);have a5:=O.ne D.x (by decide);have e3:=O.ne D.r (by decide);have e4:=(O.lt a7).1;rw[b7.out];rintro(h | h | h | h)
     ·have:=ad.b.size;have:=bH.out;omega
     ·exact e1 (h▸a7)
     ·exact a5 (h▸a7)
     ·exact e3 (h▸a7)
    have cN:=Lib.hid cn;have n1:=eZ _ q n (c0 ev) _ wr D.tq bA (by omega) D.rd (by have:=iW HE.out (i+1) bk;omega);clear aw aB cn;go_wp2_with fail;refine n1.mono ?_;clear n1;rintro e bD ⟨u11,rfl,bX,cA,bU⟩;have aP:=D.read bU cA;have cf:=O.goes (bU.wider (T:=S0) (λb (e:b=q)=>e▸cS)) (cN.out _ _ _ _ _ D O);have cG:w1.heap.size<=bD.heap.size:=Nat.le_trans cF bU.size;clear D O bU cA;obtain⟨cj,cx,cu,rfl,cB,cV⟩:=bX.open_;have aZ:=oR cj cx cu ev bD cB.out bX.src.2 (by have:=cB.out;omega) aY.1 aY.2;go_wp2_with fail;refine aZ.mono ?_;clear aZ;rintro e aF ⟨b0,b4,rfl,cI,aK⟩;have bt:=aP.below aK;have cL:=cf.below aK;have cW:w1.heap.size<=aF.heap.size:=Nat.le_trans cG aK.size;have cD:Hid (∀b,v.ownBlock=some b->b<bD.heap.size):=λb a7=>(cf.lt a7).2;have HQ:Hid (q<bD.heap.size/\xb<bD.heap.size/\rb<bD.heap.size/\w.heap.size<=bD.heap.size):=⟨aP.rd.h5,aP.x.lt,aP.r.lt,aP.b.size⟩;have cK:Hid (∀k,v.ownBlock=some k->k≠q/\k≠xb/\k≠rb/\(k=q\/w1.heap.size<=k)/\w.heap.size<=k):=λk hk=>by
     obtain⟨_,_,_,bS,_⟩:=aP.rd;have e1:=cf.ne bS (by decide);have a5:=cf.ne aP.x (by decide);have e3:=cf.ne aP.r (by decide);have e4:=(cf.lt hk).1;have:=bH.out;exact⟨λe=>e1 (e▸hk),λe=>a5 (e▸hk),λe=>e3 (e▸hk),.inr e4,by omega⟩
    clear aP cf bX;have z7:=bt.x.cell 7;have c1:=bt.x.free 7;simp at z7;have cJ:∀b,bm S0 v b->b<aF.heap.size:=λb a7=>by
     rcases a7 with a7 | a7
     ·rw[b7.out]at a7;rcases a7 with h | h | h | h
      ·have:=bt.b.size;omega
      ·have:=bt.rd.h5;omega
      ·have:=bt.x.lt;omega
      ·have:=bt.r.lt;omega
     ·exact(cL.lt a7).2
    have bC:=(Below.refl aF aF).alloc (Nat.le_refl _) (.cells #[Y b0 ev.length b4] 39);have aI:aN.R (aF.alloc (.cells #[Y b0 ev.length b4] 39)) (bm S0 v) [Y b0 ev.length b4] ev:=
     ⟨b0,b4,rfl,dS (aT cI bC) (λb a7=>by
      have h1:=cJ b a7;rcases a7 with a7 | a7
      ·rw[b7.out]at a7;have:=HQ.out;rcases a7 with h | h | h | h<;>omega
      ·have:=(cD.out b a7);omega) aY.2⟩
    go_wp2_with (at_builtin;refine a9 _ rfl (.tmp 44) (.tmp 46) 23 rfl aN w1 39 i0 z0 24 Tryz.underlying23 bM bL bJ bR bB (by decide) S0 v (aX.take i) rfl (cL.below bC) (aj aF) 1 [Y b0 ev.length b4] ev rfl (Src.made aF _ _) aI (by rw[List.length_take];unfold maxLen;omega) (by rw[List.length_take];omega) (by simp;omega) ?_;intro A5 c5 w5 O5 cz gr bP;have D5:=(bt.below bC).app gr (λk hk=>cK.out k hk);have e7:=D5.x.cell 7;have cY:=D5.x.free 7;simp at e7);have aW:(aX.take i).length=i:=(by rw[List.length_take];omega);rw[aW]at O5;have D6:=D5.put 7 (Y A5 (i+1) c5);simp only[List.set_cons_zero,List.set_cons_succ]at D6;rw[<-a4.out]at O5;have O6:=O5.goes (aJ (T:=S0) (aR w5 xb 7 (Y A5 (i+1) c5)) cv) (cN.out _ _ _ _ _ D5 O5)
    go_round
    case rel=>exact⟨i+1,_,by go_num,by omega,D6,O6,by have h1:=gr.size;have h2:=(aR w5 xb 7 (Y A5 (i+1) c5)).size;have a1:=bC.size;omega⟩
    case measure=>simp[intOf];omega
   ·obtain rfl:i=aX.length:=(by omega);have bj:ed aX aX.length=[]:=by
     unfold ed;simp
    rw[bj]at D;rw[List.take_length]at O;obtain⟨A9,n9,c9,rfl,bF,cb⟩:=O.form;obtain rfl:=bF.out;have SL:∀S:Nat->Prop,(∀b,S b->b<w.heap.size\/b=rb)->SliceAt aN wr S A9 aX:=λS hS=>O.slice (λb a7=>by
     rw[b7.out];rcases hS b a7 with h | h
     ·exact .inl h
     ·exact .inr (.inr (.inr h))) (λb a7=>by
     have:=bH.out;have:=ch.out;rcases hS b a7 with h | h<;>omega)
    have dn:=eE _ q wr D.rd;have bi:=ck wr (λ_=>False) A9 c9 (SL (λ_=>False) (λ_ h=>h.elim));have y0:=D.x.cell 0;have y1:=D.x.cell 1;have y2:=D.x.cell 2;have bb:=D.x.cell 3;have y4:=D.x.cell 4;have y5:=D.x.cell 5;have y6:=D.x.cell 6;have y7:=D.x.cell 7;simp at y0 y1 y2 bb y4 y5 y6 y7;go_wp2_with fail;refine dn.mono ?_;clear dn;rintro e wd ⟨rfl,rfl⟩;go_wp2_with fail;refine bi.mono ?_;clear bi;rintro e wf ⟨rfl,cm⟩;have J:=D.below cm;clear y0 y1 y2 bb y4 y5 y6 y7;have y0:=J.x.cell 0;have y1:=J.x.cell 1;have y2:=J.x.cell 2;have bb:=J.x.cell 3;have y4:=J.x.cell 4;have y5:=J.x.cell 5;have y6:=J.x.cell 6;have y7:=J.x.cell 7;have v0:=J.r.cell 0;have v1:=J.r.cell 1;have v2:=J.r.cell 2;have v3:=J.r.cell 3;have v4:=J.r.cell 4;have v5:=J.r.cell 5;have v6:=J.r.cell 6;have v7:=J.r.cell 7;have f0:=J.r.free 0;have f1:=J.r.free 1;have f2:=J.r.free 2;have f3:=J.r.free 3;have f4:=J.r.free 4;have f5:=J.r.free 5;have f6:=J.r.free 6;have f7:=J.r.free 7;simp[gC]at y0 v0 y1 v1 y2 v2 bb v3 y4 v4 y5 v5 y6 v6 y7 v7;go_wp2_with fail;have RZ:=((((((((J.r.put 0 (ag kind)).put 1 (ag id.au)).put 2 (av id.aq)).put 3 (av id.ax)).put 4 (ag ah)).put 5 (av sub)).put 6 aa).put 7 (Y A9 aX.length c9));simp only[gC,List.setIfInBounds_toArray,List.set_cons_zero,List.set_cons_succ]at RZ;have gz:=bl rb [(I af kind),(I af id.au),(I ak id.aq),(I ak id.ax),(I af ah),(I ak sub),aa,(Y A9 aX.length c9)] wf 0;exact vF
 ·have g0:((kind:Int)==1)=false:=(by rw[beq_eq_false_iff_ne];omega);have g1:((kind:Int)==2)=true:=(by rw[beq_iff_eq];omega);have ct:aX=[]:=HK.out.2.2 (by omega);subst ct;have ht:tail=Pk.aQ (Pk.az 0)++[]:=by
   rw[HT.out,List.append_nil];unfold gH;rw[if_neg (by omega),if_pos hk]
  have bA:(Pk.az 0).length<=n:=by
   rw[<-cc.out,ht];unfold Pk.aQ;simp only[List.length_append];omega
  rw[ht]at M;have cr:=eZ _ q n (Pk.az 0) _ w9 M.tq bA (by omega) M.rd (by simp);clear ht hk;rw[cl.out]at z0;go_wp2_with fail;rw[<-cl.out];clear z0;refine cr.mono ?_;clear cr;rintro e bs ⟨u10,rfl,ce,b9,bW⟩;have ad:=M.read bW b9;clear M bW b9;obtain⟨cd,cw,cU,rfl,cR,cX⟩:=ce.open_;have cE:=n8 cd cw cU bs cR.out ce.src.2;go_wp2_with fail;refine cE.mono ?_;clear cE;rintro e bD ⟨rfl,cq⟩;have aP:=ad.below cq;have x6:=aP.x.cell 6;have cH:=aP.x.free 6;simp at x6;have D:=aP.put 6 aa;simp only[List.set_cons_zero,List.set_cons_succ]at D;obtain⟨aF,bE⟩:=am (bD.setCell ⟨xb,6,none⟩ aa);rw[<-bE]at D;have SL:∀S:Nat->Prop,(∀b,S b->b<w.heap.size\/b=rb)->SliceAt aN aF S none []:=λS hS=>.nil _ _ _ _;clear ad aP;go_wp2_with fail;rw[<-bE];clear bE x6 cH;have dn:=eE _ q aF D.rd;have bi:=ck aF (λ_=>False) none 0 (SL (λ_=>False) (λ_ h=>h.elim));have y0:=D.x.cell 0;have y1:=D.x.cell 1;have y2:=D.x.cell 2;have bb:=D.x.cell 3;have y4:=D.x.cell 4;have y5:=D.x.cell 5;have y6:=D.x.cell 6;have y7:=D.x.cell 7;simp at y0 y1 y2 bb y4 y5 y6 y7;refine dn.mono ?_;clear dn;rintro e wd ⟨rfl,rfl⟩;go_wp2_with fail;refine bi.mono ?_;clear bi;rintro e wf ⟨rfl,cm⟩;have J:=D.below cm;exact wh
 ·have g0:((kind:Int)==1)=false:=(by rw[beq_eq_false_iff_ne];omega);have g1:((kind:Int)==2)=false:=(by rw[beq_eq_false_iff_ne];omega);have ct:aX=[]:=HK.out.2.2 (by omega);subst ct;have ht:tail=[]:=by
   rw[HT.out];unfold gH;rw[if_neg (by omega),if_neg (by omega)]
  rw[ht]at M;have SL:∀S:Nat->Prop,(∀b,S b->b<w.heap.size\/b=rb)->SliceAt aN w9 S none []:=λS hS=>.nil _ _ _ _;clear ht hk;rw[cl.out]at z0;go_wp2_with fail;rw[<-cl.out];clear z0;have dn:=eE _ q w9 M.rd;have bi:=ck w9 (λ_=>False) none 0 (SL (λ_=>False) (λ_ h=>h.elim));have y0:=M.x.cell 0;have y1:=M.x.cell 1;have y2:=M.x.cell 2;have bb:=M.x.cell 3;have y4:=M.x.cell 4;have y5:=M.x.cell 5;have y6:=M.x.cell 6;have y7:=M.x.cell 7;simp at y0 y1 y2 bb y4 y5 y6 y7;refine dn.mono ?_;clear dn;rintro e wd ⟨rfl,rfl⟩;go_wp2_with fail;refine bi.mono ?_;clear bi;rintro e wf ⟨rfl,cm⟩;have J:=M.below cm;exact wh
end
abbrev DB:Value:=ep
abbrev C4:Value:=cZ
theorem xi:(Program.built Tryz.prog 32 []).map Array.toList=some [I af 0,I ak 0,I ak 0]:=by kernel_rfl
theorem jC(w:World):(Instr.build 32 #[]).run Tryz.prog w=.ok DB w:=by
 obtain⟨cs,h1,h2⟩:=Option.map_eq_some_iff.1 xi;rw[run_build w 32 _ cs h1];rw[show cs=#[I af 0,I ak 0,I ak 0] from Array.toList_inj.1 h2]
theorem sA(w:World):Calls Tryz.prog 188 #[C4] w λe w'=>e=.returned (.bool true)/\Below w w w':=by
 have a7:=λw=>jC w;go_enter Tryz.func188,Tryz.ntmps188;go_wp2_with fail;go_ret;exact⟨rfl,(Below.refl _ w).alloc (Nat.le_refl _) _⟩
theorem vR{P:Prop}(h:P:=by
 go_enter Tryz.func135,Tryz.ntmps135;go_wp2_with fail;rw[<-ar];clear ar;refine n1.mono ?_;rintro e w1 ⟨rfl,b1⟩;go_wp2;go_ret;exact⟨rfl,aU.trans (b1.mono aU.size)⟩
 ):P:=h
theorem pv(n:Nat)(w:World):Calls Tryz.prog 135 #[ez n] w λe w'=>e=.returned (.bool true)/\Below w w w':=by
 have a7:=λw=>jC w;obtain⟨w0,ar⟩:=am (w.alloc (.cells (ez n) 161));have hC:ai w0 w 161 (ez n):=by rw[ar];exact ai.made _ _ _
 have aU:=aV ar;obtain⟨cb,M⟩:=am w.heap.size;rw[<-M]at hC;have aF:=Lib.hid M;clear M;have n1:=sA w0;exact vR
theorem wk{P:Prop}(h:P:=by
 have aU:=aV ar;obtain⟨cb,M⟩:=am w.heap.size;rw[<-M]at hC;have aF:=Lib.hid M;clear M;have n1:=fV S x A c w0 hg (h.below aU);unfold ae.cellsOf at n1;exact vR
 ):P:=h
theorem oh(n:Nat)(x:ae)(A:Option Addr)(c:Nat)(S:Nat->Prop)(w:World)(hg:x.aH)(h:SliceAt aN w S A x.events):Calls Tryz.prog 135 #[eq n x A c] w λe w'=>e=.returned (.bool true)/\Below w w w':=by
 have a7:=λw=>jC w;obtain⟨w0,ar⟩:=am (w.alloc (.cells (eq n x A c) 161));have hC:ai w0 w 161 (eq n x A c):=by rw[ar];exact ai.made _ _ _
 exact wk
theorem kp(x:ae)(A:Option Addr)(c:Nat)(S:Nat->Prop)(w:World)(hg:x.aH)(h:SliceAt aN w S A x.events):Calls Tryz.prog 135 #[ey x A c] w λe w'=>e=.returned (.bool true)/\Below w w w':=by
 have a7:=λw=>jC w;obtain⟨w0,ar⟩:=am (w.alloc (.cells (ey x A c) 161));have hC:ai w0 w 161 (ey x A c):=by rw[ar];exact ai.made _ _ _
 exact wk
theorem fi{w:World}{cb:Nat}{a b:Value}{l:List Value}(h:ai w cb 161 (a::b::l).toArray):w.cell? (aj cb)=some a/\w.cell? ⟨cb,1,none⟩=some b:=by
 refine⟨?_,?_⟩<;>(rw[h.cell];rfl)
theorem nV(n:Nat)(w:World)(aL:n<18446744073709551616):Calls Tryz.prog 136 #[ez n] w λe w'=>∃u,e=.returned (.tuple #[u,ag 0])/\Row w' w u (Pk.az 1++Pk.az n)/\Below w w w':=by
 obtain⟨w0,ar⟩:=am (w.alloc (.cells (ez n) 161));have hC:ai w0 w 161 (ez n):=by rw[ar];exact ai.made _ _ _
 have aU:=aV ar;obtain⟨cb,M⟩:=am w.heap.size;rw[<-M]at hC;have aF:=Lib.hid M;clear M;have n1:=pv n w0;go_enter Tryz.func136,Tryz.ntmps136;go_wp2_with fail;rw[<-ar,<-aF.out];clear ar;refine n1.mono ?_;clear n1;rintro e w1 ⟨rfl,b1⟩;have a6:=aU.trans (b1.mono aU.size);have ao:=hC.below b1 hC.lt;have aZ:=b7 none 0 0 1 [] w1.drew rfl (by omega) (.inl rfl) (by omega);go_wp2_with fail;refine wp_region_held_drew (S:=(λw'=>w'.cell? (aj cb)=some (I af 1)/\w'.cell? ⟨cb,1,none⟩=some (I ak n))) (by kernel_rfl) (fi ao) (λJ=>?_);refine tk 0 J ?_;refine tk 1 J ?_;refine tk 2 J ?_;refine tk 4 J ?_;refine tk 5 J ?_;refine aP 3 (λK ad=>?_);clear J;go_simp;refine aZ.mono ?_;clear aZ;rintro e w2 ⟨u2,rfl,bf,b2⟩;have b2:=a8 b2;have aI:=ao.below b2 ao.lt
 try dsimp only
 refine ad.out _ _ (fi aI) (λJ=>?_);clear ad K;refine aP 6 (λK ad=>?_);clear J;obtain⟨A2,m2,c2,rfl,a9,aT⟩:=bf.open_;have aS:m2<=9:=by rw[<-a9.out,List.nil_append];exact aG 1 (by omega)
 have n3:=b7 A2 m2 c2 n _ w2 a9.out (by omega) bf.src.2 (by omega);go_simp;refine n3.mono ?_;clear n3;rintro e w3 ⟨u3,rfl,r3,b3⟩;have aw:=aI.below b3 aI.lt
 try dsimp only
 refine ad.out _ _ (fi aw) (λJ=>?_);clear ad K;refine aP 7 (λK ad=>?_);clear J;go_simp;refine ad.out _ _ (fi aw) (λJ=>?_);clear ad K;refine cB ?_ _;obtain⟨A3,m3,c3,rfl,aD,bY⟩:=r3.open_;have aa:m3<=18:=by rw[<-aD.out,List.length_append,a9.out];have:=aG n (by omega);omega
 have br:=(a6.trans (b2.mono a6.size)).trans (b3.mono (Nat.le_trans a6.size b2.size));clear bf J;have y0:=aw.cell 0;simp at y0;go_wp2;go_ret2;exact⟨_,rfl,by simpa using r3.mono (Nat.le_trans a6.size b2.size),br⟩
theorem ae.bZ{x:ae}(hg:x.aH):x.enc.length<=13100:=by
 rw[x.vy];have:=iX (kind:=x.kind) hg.ev hg.len;have:=hg.kind;have:=aG x.kind (by omega);have:=PId.bZ hg.id;have:=aG x.ah (by have:=hg.ah;omega);have:=aG x.sub hg.sub;simp only[List.length_append];omega
theorem v7{P:Prop}(h:P:=by
 have br:=(a6.trans (b2.mono a6.size)).trans (b3.mono (Nat.le_trans a6.size b2.size));clear bf J;have y0:=aw.cell 0;simp at y0;have y2:=aw.cell 2;have bb:=aw.cell 3;have y4:=aw.cell 4;have y5:=aw.cell 5;have y6:=aw.cell 6;have y7:=aw.cell 7;have y8:=aw.cell 8;have y9:=aw.cell 9;simp at y2 bb y4 y5 y6 y7 y8 y9;have a1:=((h0.below b1).below b2).below b3;have n4:=h4 S x A c w3 hg a1;unfold ae.cellsOf at n4;go_wp2_with fail;refine n4.mono ?_;clear n4;rintro e w4 ⟨u4,rfl,r4,bK⟩;obtain⟨A4,m4,c4,rfl,aR,bd⟩:=r4.open_;have bT:=x.bZ hg;have n5:=im A3 A4 m3 c3 m4 c4 _ _ w4 aD.out aR.out (r3.below bK).src.2 r4.src.2 (by omega) (by have:=aR.out;omega);go_wp2_with fail;refine n5.mono ?_;clear n5;rintro e w5 ⟨u5,rfl,r5,bS⟩;have bp:=br.trans (bK.mono br.size);go_wp2;go_ret2;exact⟨_,rfl,by simpa using r5.mono bp.size,bp.trans (bS.mono bp.size)⟩
 ):P:=h
theorem mj(n:Nat)(x:ae)(A:Option Addr)(c:Nat)(S:Nat->Prop)(w:World)(aL:n<18446744073709551616)(hg:x.aH)(h:SliceAt aN w S A x.events):Calls Tryz.prog 136 #[eq n x A c] w λe w'=>∃u,e=.returned (.tuple #[u,ag 0])/\Row w' w u (Pk.az 2++Pk.az n++Pk.aQ x.enc)/\Below w w w':=by
 obtain⟨w0,ar⟩:=am (w.alloc (.cells (eq n x A c) 161));have hC:ai w0 w 161 (eq n x A c):=by rw[ar];exact ai.made _ _ _
 have aU:=aV ar;obtain⟨cb,M⟩:=am w.heap.size;rw[<-M]at hC;have aF:=Lib.hid M;clear M;have n1:=oh n x A c S w0 hg (h.below aU);have h0:=h.below aU;clear h;go_enter Tryz.func136,Tryz.ntmps136;go_wp2_with fail;rw[<-ar,<-aF.out];clear ar;refine n1.mono ?_;clear n1;rintro e w1 ⟨rfl,b1⟩;have a6:=aU.trans (b1.mono aU.size);have ao:=hC.below b1 hC.lt;have aZ:=b7 none 0 0 2 [] w1.drew rfl (by omega) (.inl rfl) (by omega);go_wp2_with fail;refine wp_region_held_drew (S:=(λw'=>w'.cell? (aj cb)=some (I af 2)/\w'.cell? ⟨cb,1,none⟩=some (I ak n))) (by kernel_rfl) (fi ao) (λJ=>?_);refine tk 0 J ?_;refine tk 1 J ?_;refine tk 2 J ?_;refine tk 4 J ?_;refine tk 5 J ?_;refine aP 3 (λK ad=>?_);clear J;go_simp;refine aZ.mono ?_;clear aZ;rintro e w2 ⟨u2,rfl,bf,b2⟩;have b2:=a8 b2;have aI:=ao.below b2 ao.lt
 try dsimp only
 refine ad.out _ _ (fi aI) (λJ=>?_);clear ad K;refine aP 6 (λK ad=>?_);clear J;obtain⟨A2,m2,c2,rfl,a9,aT⟩:=bf.open_;have aS:m2<=9:=by rw[<-a9.out,List.nil_append];exact aG 2 (by omega)
 have n3:=b7 A2 m2 c2 n _ w2 a9.out (by omega) bf.src.2 (by omega);go_simp;refine n3.mono ?_;clear n3;rintro e w3 ⟨u3,rfl,r3,b3⟩;have aw:=aI.below b3 aI.lt
 try dsimp only
 refine ad.out _ _ (fi aw) (λJ=>?_);clear ad K;refine aP 7 (λK ad=>?_);clear J;go_simp;refine ad.out _ _ (fi aw) (λJ=>?_);clear ad K;refine cB ?_ _;obtain⟨A3,m3,c3,rfl,aD,bY⟩:=r3.open_;have aa:m3<=18:=by rw[<-aD.out,List.length_append,a9.out];have:=aG n (by omega);omega
 exact v7
theorem j3(x:ae)(A:Option Addr)(c:Nat)(S:Nat->Prop)(w:World)(hg:x.aH)(h:SliceAt aN w S A x.events):Calls Tryz.prog 136 #[ey x A c] w λe w'=>∃u,e=.returned (.tuple #[u,ag 0])/\Row w' w u (Pk.az 3++Pk.az 0++Pk.aQ x.enc)/\Below w w w':=by
 obtain⟨w0,ar⟩:=am (w.alloc (.cells (ey x A c) 161));have hC:ai w0 w 161 (ey x A c):=by rw[ar];exact ai.made _ _ _
 have aU:=aV ar;obtain⟨cb,M⟩:=am w.heap.size;rw[<-M]at hC;have aF:=Lib.hid M;clear M;have n1:=kp x A c S w0 hg (h.below aU);have h0:=h.below aU;clear h;go_enter Tryz.func136,Tryz.ntmps136;go_wp2_with fail;rw[<-ar,<-aF.out];clear ar;refine n1.mono ?_;clear n1;rintro e w1 ⟨rfl,b1⟩;have a6:=aU.trans (b1.mono aU.size);have ao:=hC.below b1 hC.lt;have aZ:=b7 none 0 0 3 [] w1.drew rfl (by omega) (.inl rfl) (by omega);go_wp2_with fail;refine wp_region_held_drew (S:=(λw'=>w'.cell? (aj cb)=some (I af 3)/\w'.cell? ⟨cb,1,none⟩=some (I ak 0))) (by kernel_rfl) (fi ao) (λJ=>?_);refine tk 0 J ?_;refine tk 1 J ?_;refine tk 2 J ?_;refine tk 4 J ?_;refine tk 5 J ?_;refine aP 3 (λK ad=>?_);clear J;go_simp;refine aZ.mono ?_;clear aZ;rintro e w2 ⟨u2,rfl,bf,b2⟩;have b2:=a8 b2;have aI:=ao.below b2 ao.lt
 try dsimp only
 refine ad.out _ _ (fi aI) (λJ=>?_);clear ad K;refine aP 6 (λK ad=>?_);clear J;obtain⟨A2,m2,c2,rfl,a9,aT⟩:=bf.open_;have aS:m2<=9:=by rw[<-a9.out,List.nil_append];exact aG 3 (by omega)
 have n3:=b7 A2 m2 c2 0 _ w2 a9.out (by omega) bf.src.2 (by omega);go_simp;refine n3.mono ?_;clear n3;rintro e w3 ⟨u3,rfl,r3,b3⟩;have aw:=aI.below b3 aI.lt
 try dsimp only
 refine ad.out _ _ (fi aw) (λJ=>?_);clear ad K;refine aP 7 (λK ad=>?_);clear J;go_simp;refine ad.out _ _ (fi aw) (λJ=>?_);clear ad K;refine cB ?_ _;obtain⟨A3,m3,c3,rfl,aD,bY⟩:=r3.open_;have aa:m3<=18:=by rw[<-aD.out,List.length_append,a9.out];have:=aG 0 (by omega);omega
 exact v7
def eB:List Value:=[I af 0,I ak 0,I af 0,I af 0,I ak 0,I ak 0,I af 0,I ak 0,aa,aa,I af 0,I ak 0,I ak 0]
theorem xM(k:Int):(Program.built Tryz.prog 161 [(0,I af k)]).map Array.toList=some [I af k,I ak 0,I af 0,I af 0,I ak 0,I ak 0,I af 0,I ak 0,aa,aa,I af 0,I ak 0,I ak 0]:=by kernel_rfl
theorem lx(k:Int)(w:World):(Instr.build 161 #[(0,I af k)]).run Tryz.prog w=.ok (aE #[ag k,av 0,ag 0,ag 0,av 0,av 0,ag 0,av 0,aa,aa,ag 0,av 0,av 0]) w:=by
 obtain⟨cs,h1,h2⟩:=Option.map_eq_some_iff.1 (xM k);rw[run_build w 161 _ cs h1];rw[show cs=#[I af k,I ak 0,I af 0,I af 0,I ak 0,I ak 0,I af 0,I ak 0,aa,aa,I af 0,I ak 0,I ak 0] from Array.toList_inj.1 h2]
theorem qa(A:Option Addr)(n c:Nat)(m:Nat)(w:World)(aL:(Pk.az 1++(Pk.az m++[])).length=n)(h:Src w A (aA (Pk.az 1++(Pk.az m++[]))))(hm:m<18446744073709551616):
 Calls Tryz.prog 72 #[Y A n c] w λe w'=>e=.returned (.tuple #[ez m,ag 0])/\Below w w w':=by
 have L1:=aG 1 (by omega);have L2:=aG m (by omega);have L3:([]:List UInt8).length<=0:=by simp
 have aO:n<=13200:=by
  rw[<-aL];simp only[List.length_append];omega
 obtain⟨w0,ar⟩:=am (w.alloc (.cells #[ag 0,av 0,ag 0,ag 0,av 0,av 0,ag 0,av 0,aa,aa,ag 0,av 0,av 0] 161));have ay:ai w0 w 161 eB.toArray:=by rw[ar];exact ai.made _ _ _
 have aU:=aV ar;have aC:Src w0 A (aA (Pk.az 1++(Pk.az m++[]))):=by
  rcases h with h | ⟨b,off,e1,hc⟩
  ·exact .inl h
  ·exact .inr ⟨b,off,e1,λj u hu=>(aU.cell (p:=⟨b,off+j,none⟩) (World.block_lt_of_cell? w _ (hc j u hu))).trans (hc j u hu)⟩
 have new:=ek A n c _ w0 aL aC (by omega) (λ_=>False) (λ_ h=>h.elim);have cc:=Lib.hid aL;obtain⟨rb,bh⟩:=am w.heap.size;rw[<-bh]at ay;have bn:=Lib.hid bh;have bF:=λw=>lx 1 w;clear h aC aL bh;go_enter Tryz.func72,Tryz.ntmps72;go_wp2_with fail;rw[<-ar,<-bn.out];clear ar;refine new.mono ?_;clear new;rintro e w1 ⟨q,rfl,hq,ba,b1⟩;have bz:=ay.below b1 ay.lt;have ch:=Lib.hid bz.lt;have ba:=ba.up (.inr rfl);have a6:=aU.trans (b1.mono aU.size);have bH:=Lib.hid a6.size;have bx:w.heap.size<=q:=Nat.le_trans aU.size hq;have bq:rb≠q:=by have:=ay.lt;omega
 have aZ:=fp _ q 1 6 _ w1 (.inl rfl) (by omega) (by omega) ba (by simp only[List.length_append];omega);go_wp2_with fail;refine aZ.mono ?_;clear aZ;rintro e w2 ⟨rfl,ao,g2⟩;have bN:ai w2 rb 161 _:=bz.grown g2 (λe=>by injection e with e;omega);have bo:Below w w w2:=a6.grown g2 a6.size (λk e=>by injection e with e;omega);obtain⟨w3,bd⟩:=am (w2.alloc (.cells (ez 0) 161));have b3:=aV bd;obtain⟨xb,a0⟩:=am w2.heap.size;have hB:w1.heap.size<=xb:=by rw[a0];exact g2.size
 have bQ:=ao.h5;have D3:DS 161 eB w (λb=>b=q\/w1.heap.size<=b) q xb rb w3 (ez 0) _:=
  ⟨ao.below b3,by rw[bd,a0];exact ai.made _ _ _,bN.below b3 bN.lt,bo.trans (b3.mono bo.size),by omega,bq,by have:=bN.lt;omega,bx,by have:=bo.size;omega,.inr hB,.inl rfl⟩
 go_wp2_with fail;rw[<-bd,<-a0];clear bd a0 b3 bo bN ao g2 a6 bz b1 aU ay ba bF;have n4:=cM _ q m _ w3 D3.tq (by omega) D3.rd (by first | (simp;done) | (simp only[List.length_append];omega));refine n4.mono ?_;clear n4;rintro e w4 ⟨rfl,bp,g4⟩;have D4:=D3.grown g4 bp;clear D3 g4 bp;have bg:=D4.x.cell 1;have bV:=D4.x.free 1;simp at bg;have D5:=D4.put 1 (av m);simp only[List.set_cons_zero,List.set_cons_succ]at D5;clear D4;obtain⟨w5,a8⟩:=am (w4.setCell ⟨xb,1,none⟩ (av m));rw[<-a8]at D5;have z0:=D5.x.cell 0;simp at z0;rw[a8]at z0;go_wp2_with fail;rw[<-a8];rw[<-a8]at z0;clear a8 bg bV;have dn:=eE _ q w5 D5.rd;have bi:=pv m w5;have y0:=D5.x.cell 0;have y1:=D5.x.cell 1;have y2:=D5.x.cell 2;have bb:=D5.x.cell 3;have y4:=D5.x.cell 4;have y5:=D5.x.cell 5;have y6:=D5.x.cell 6;have y7:=D5.x.cell 7;have y8:=D5.x.cell 8;have y9:=D5.x.cell 9;have cx:=D5.x.cell 10;have aE:=D5.x.cell 11;have ad:=D5.x.cell 12;simp at y0 y1 y2 bb y4 y5 y6 y7 y8 y9 cx aE ad;refine dn.mono ?_;clear dn;rintro e wd ⟨rfl,rfl⟩;go_wp2_with fail;refine bi.mono ?_;clear bi;rintro e wf ⟨rfl,cm⟩;have J:=D5.below cm;clear y0 y1 y2 bb y4 y5 y6 y7 y8 y9 cx aE ad;have y0:=J.x.cell 0;have y1:=J.x.cell 1;have y2:=J.x.cell 2;have bb:=J.x.cell 3;have y4:=J.x.cell 4;have y5:=J.x.cell 5;have y6:=J.x.cell 6;have y7:=J.x.cell 7;have y8:=J.x.cell 8;have y9:=J.x.cell 9;have cx:=J.x.cell 10;have aE:=J.x.cell 11;have ad:=J.x.cell 12;have v0:=J.r.cell 0;have v1:=J.r.cell 1;have v2:=J.r.cell 2;have v3:=J.r.cell 3;have v4:=J.r.cell 4;have v5:=J.r.cell 5;have v6:=J.r.cell 6;have v7:=J.r.cell 7;have v8:=J.r.cell 8;have v9:=J.r.cell 9;have v10:=J.r.cell 10;have v11:=J.r.cell 11;have aw:=J.r.cell 12;have f0:=J.r.free 0;have f1:=J.r.free 1;have f2:=J.r.free 2;have f3:=J.r.free 3;have f4:=J.r.free 4;have f5:=J.r.free 5;have f6:=J.r.free 6;have f7:=J.r.free 7;have f8:=J.r.free 8;have f9:=J.r.free 9;have f10:=J.r.free 10;have f11:=J.r.free 11;have f12:=J.r.free 12;simp[eB]at y0 y1 y2 bb y4 y5 y6 y7 y8 y9 cx aE ad v0 v1 v2 v3 v4 v5 v6 v7 v8 v9 v10 v11 aw;go_wp2_with fail;have RZ:=(((((((((((((J.r.put 0 (ag 1)).put 1 (av m)).put 2 (ag 0)).put 3 (ag 0)).put 4 (av 0)).put 5 (av 0)).put 6 (ag 0)).put 7 (av 0)).put 8 aa).put 9 aa).put 10 (ag 0)).put 11 (av 0)).put 12 (av 0));simp only[eB,List.setIfInBounds_toArray,List.set_cons_zero,List.set_cons_succ]at RZ;have gz:=bl rb [(I af 1),(I ak m),(I af 0),(I af 0),(I ak 0),(I ak 0),(I af 0),(I ak 0),aa,aa,(I af 0),(I ak 0),(I ak 0)] wf 0;refine bodyPost_ret (bI rfl _ _ rb 161 _ (0,0) _ rfl RZ Tryz.underlying161 rfl (by kernel_rfl)) rfl ?_;exact⟨rfl,J.b.grown gz J.b.size (λk e=>by injection e with e;rw[<-e,bn.out];exact Nat.le_refl _)⟩
theorem vM{P:Prop}(h:P:=by
 refine bodyPost_ret (bI rfl _ _ rb 161 _ (0,0) _ rfl RZ Tryz.underlying161 rfl (by kernel_rfl)) rfl ?_;exact⟨⟨_,_,rfl,λS hS=>(((SL (λb=>S b\/b=rb) (λb a7=>a7.elim (λe=>.inl (hS b e)) .inr)).below cm).goes (aJ gz (.inr rfl))).weak (λb a7=>.inl a7)⟩,J.b.grown gz J.b.size (λk e=>by injection e with e;rw[<-e,bn.out];exact Nat.le_refl _)⟩
 ):P:=h
theorem oH(A:Option Addr)(n c:Nat)(m:Nat)(x:ae)(w:World)(aL:(Pk.az 2++(Pk.az m++(Pk.aQ x.enc++[]))).length=n)(h:Src w A (aA (Pk.az 2++(Pk.az m++(Pk.aQ x.enc++[])))))(hm:m<18446744073709551616)(hg:x.aH):
 Calls Tryz.prog 72 #[Y A n c] w λe w'=>(∃A' c',e=.returned (.tuple #[eq m x A' c',ag 0])/\(∀S:Nat->Prop,(∀b,S b->b<w.heap.size)->SliceAt aN w' S A' x.events))/\Below w w w':=by
 have L1:=aG 2 (by omega);have L2:=aG m (by omega);have bT:=x.bZ hg;have L3:=cR x.enc (by omega);have L4:(Pk.aQ x.enc).length=(Pk.az x.enc.length).length+x.enc.length:=by unfold Pk.aQ;rw[List.length_append]
 have L5:([]:List UInt8).length=0:=rfl;have aO:n<=13200:=by
  rw[<-aL];simp only[List.length_append];omega
 obtain⟨w0,ar⟩:=am (w.alloc (.cells #[ag 0,av 0,ag 0,ag 0,av 0,av 0,ag 0,av 0,aa,aa,ag 0,av 0,av 0] 161));have ay:ai w0 w 161 eB.toArray:=by rw[ar];exact ai.made _ _ _
 have aU:=aV ar;have aC:Src w0 A (aA (Pk.az 2++(Pk.az m++(Pk.aQ x.enc++[])))):=by
  rcases h with h | ⟨b,off,e1,hc⟩
  ·exact .inl h
  ·exact .inr ⟨b,off,e1,λj u hu=>(aU.cell (p:=⟨b,off+j,none⟩) (World.block_lt_of_cell? w _ (hc j u hu))).trans (hc j u hu)⟩
 have new:=ek A n c _ w0 aL aC (by omega) (λ_=>False) (λ_ h=>h.elim);have cc:=Lib.hid aL;obtain⟨rb,bh⟩:=am w.heap.size;rw[<-bh]at ay;have bn:=Lib.hid bh;have bF:=λw=>lx 2 w;clear h aC aL bh;go_enter Tryz.func72,Tryz.ntmps72;go_wp2_with fail;rw[<-ar,<-bn.out];clear ar;refine new.mono ?_;clear new;rintro e w1 ⟨q,rfl,hq,ba,b1⟩;have bz:=ay.below b1 ay.lt;have ch:=Lib.hid bz.lt;have ba:=ba.up (.inr rfl);have a6:=aU.trans (b1.mono aU.size);have bH:=Lib.hid a6.size;have bx:w.heap.size<=q:=Nat.le_trans aU.size hq;have bq:rb≠q:=by have:=ay.lt;omega
 have aZ:=fp _ q 2 6 _ w1 (.inl rfl) (by omega) (by omega) ba (by simp only[List.length_append];omega);go_wp2_with fail;refine aZ.mono ?_;clear aZ;rintro e w2 ⟨rfl,ao,g2⟩;have bN:ai w2 rb 161 _:=bz.grown g2 (λe=>by injection e with e;omega);have bo:Below w w w2:=a6.grown g2 a6.size (λk e=>by injection e with e;omega);obtain⟨w3,bd⟩:=am (w2.alloc (.cells #[ag 2,av 0,ag 0,ag 0,av 0,av 0,ag 0,av 0,aa,aa,ag 0,av 0,av 0] 161));have b3:=aV bd;obtain⟨xb,a0⟩:=am w2.heap.size;have hB:w1.heap.size<=xb:=by rw[a0];exact g2.size
 have bQ:=ao.h5;have D3:DS 161 eB w (λb=>b=q\/w1.heap.size<=b) q xb rb w3 [ag 2,av 0,ag 0,ag 0,av 0,av 0,ag 0,av 0,aa,aa,ag 0,av 0,av 0] _:=
  ⟨ao.below b3,by rw[bd,a0];exact ai.made _ _ _,bN.below b3 bN.lt,bo.trans (b3.mono bo.size),by omega,bq,by have:=bN.lt;omega,bx,by have:=bo.size;omega,.inr hB,.inl rfl⟩
 go_wp2_with fail;rw[<-bd,<-a0];clear bd a0 b3 bo bN ao g2 a6 bz b1 aU ay ba bF;have n4:=cM _ q m _ w3 D3.tq (by omega) D3.rd (by first | (simp;done) | (simp only[List.length_append];omega));refine n4.mono ?_;clear n4;rintro e w4 ⟨rfl,bp,g4⟩;have D4:=D3.grown g4 bp;clear D3 g4 bp;have bg:=D4.x.cell 1;have bV:=D4.x.free 1;simp at bg;have D5:=D4.put 1 (av m);simp only[List.set_cons_zero,List.set_cons_succ]at D5;clear D4;obtain⟨w5,a8⟩:=am (w4.setCell ⟨xb,1,none⟩ (av m));rw[<-a8]at D5;have z0:=D5.x.cell 0;simp at z0;rw[a8]at z0;go_wp2_with fail;rw[<-a8];rw[<-a8]at z0;clear a8 bg bV;have bA:x.enc.length<=n:=by
  rw[<-cc.out];simp only[List.length_append];omega
 have n6:=eZ _ q n x.enc [] w5 D5.tq bA (by omega) D5.rd (by simp);refine n6.mono ?_;clear n6;rintro e w6 ⟨u6,rfl,r6,b2,g6⟩;have D6:=D5.read g6 b2;clear D5 g6 b2 z0;obtain⟨A6,m6,bX,rfl,bm,cC⟩:=r6.open_;have n7:=h7 A6 m6 bX x w6 bm.out r6.src.2 hg;unfold ae.cellsOf at n7;go_wp2_with fail;refine n7.mono ?_;clear n7;rintro e w7 ⟨A7,c7,rfl,aF,bt⟩;have D7:=D6.below bt;have HW:=di D6.b.size D6.r.lt;have bj:=Lib.hid D6.x.lt;clear D6 r6;obtain⟨w8,aM⟩:=am (w7.alloc (.cells (a3 x A7 c7) 132));have bB:=aV aM;have D8:=D7.below bB;have aD:w7.heap.size≠xb:=by have:=D7.x.lt;omega
 have a2:=D8.x.cell 2;have bG:=D8.x.cell 3;have bw:=D8.x.cell 4;have bO:=D8.x.cell 5;have bk:=D8.x.cell 6;have cl:=D8.x.cell 7;have a9:=D8.x.cell 8;have aK:=D8.x.cell 9;have b5:=D8.x.free 2;have bY:=D8.x.free 3;have b8:=D8.x.free 4;have ca:=D8.x.free 5;have aW:=D8.x.free 6;have aX:=D8.x.free 7;have aj:=D8.x.free 8;have aB:=D8.x.free 9;simp at a2 bG bw bO bk cl a9 aK;have M:=((((((((D8.put 2 (ag x.kind)).put 3 (ag x.id.au)).put 4 (av x.id.aq)).put 5 (av x.id.ax)).put 6 (ag x.ah)).put 7 (av x.sub)).put 8 aa).put 9 (Y A7 x.events.length c7));simp only[List.set_cons_zero,List.set_cons_succ]at M;obtain⟨w9,br⟩:=am ((((((((w8.setCell ⟨xb,2,none⟩ (ag x.kind)).setCell ⟨xb,3,none⟩ (ag x.id.au)).setCell ⟨xb,4,none⟩ (av x.id.aq)).setCell ⟨xb,5,none⟩ (av x.id.ax)).setCell ⟨xb,6,none⟩ (ag x.ah)).setCell ⟨xb,7,none⟩ (av x.sub)).setCell ⟨xb,8,none⟩ aa).setCell ⟨xb,9,none⟩ (Y A7 x.events.length c7));rw[<-br]at M;have aS:w8.grownBy w9 (some xb):=by rw[br];exact bl xb [(I af x.kind),(I af x.id.au),(I ak x.id.aq),(I ak x.id.ax),(I af x.ah),(I ak x.sub),aa,(Y A7 x.events.length c7)] w8 2
 have z0:=M.x.cell 0;simp at z0;have SL:∀S:Nat->Prop,(∀b,S b->b<w.heap.size\/b=rb)->SliceAt aN w9 S A7 x.events:=λS hS=>(((aF (λb=>S b\/b=xb) (λb a7=>by
  have:=HW.out;rcases a7 with a7 | a7
  ·rcases hS b a7 with h | h<;>omega
  ·have:=bj.out;omega)).below bB).goes (aJ aS (.inr rfl))).weak (λb a7=>.inl a7)
 clear D8 D7;rw[aM]at a2 bG bw bO bk cl a9 aK b5 bY b8 ca aW aX aj aB;rw[br,aM]at z0;go_wp2_with fail;rw[<-aM,<-br];clear aM br z0 a2 bG bw bO bk cl a9 aK b5 bY b8 ca aW aX aj aB;have dn:=eE _ q w9 M.rd;have bi:=oh m x A7 c7 (λ_=>False) w9 hg (SL (λ_=>False) (λ_ h=>h.elim));have y0:=M.x.cell 0;have y1:=M.x.cell 1;have y2:=M.x.cell 2;have bb:=M.x.cell 3;have y4:=M.x.cell 4;have y5:=M.x.cell 5;have y6:=M.x.cell 6;have y7:=M.x.cell 7;have y8:=M.x.cell 8;have y9:=M.x.cell 9;have cx:=M.x.cell 10;have aE:=M.x.cell 11;have ad:=M.x.cell 12;simp at y0 y1 y2 bb y4 y5 y6 y7 y8 y9 cx aE ad;refine dn.mono ?_;clear dn;rintro e wd ⟨rfl,rfl⟩;go_wp2_with fail;refine bi.mono ?_;clear bi;rintro e wf ⟨rfl,cm⟩;have J:=M.below cm;clear y0 y1 y2 bb y4 y5 y6 y7 y8 y9 cx aE ad;have y0:=J.x.cell 0;have y1:=J.x.cell 1;have y2:=J.x.cell 2;have bb:=J.x.cell 3;have y4:=J.x.cell 4;have y5:=J.x.cell 5;have y6:=J.x.cell 6;have y7:=J.x.cell 7;have y8:=J.x.cell 8;have y9:=J.x.cell 9;have cx:=J.x.cell 10;have aE:=J.x.cell 11;have ad:=J.x.cell 12;have v0:=J.r.cell 0;have v1:=J.r.cell 1;have v2:=J.r.cell 2;have v3:=J.r.cell 3;have v4:=J.r.cell 4;have v5:=J.r.cell 5;have v6:=J.r.cell 6;have v7:=J.r.cell 7;have v8:=J.r.cell 8;have v9:=J.r.cell 9;have v10:=J.r.cell 10;have v11:=J.r.cell 11;have aw:=J.r.cell 12;have f0:=J.r.free 0;have f1:=J.r.free 1;have f2:=J.r.free 2;have f3:=J.r.free 3;have f4:=J.r.free 4;have f5:=J.r.free 5;have f6:=J.r.free 6;have f7:=J.r.free 7;have f8:=J.r.free 8;have f9:=J.r.free 9;have f10:=J.r.free 10;have f11:=J.r.free 11;have f12:=J.r.free 12;simp[eB]at y0 y1 y2 bb y4 y5 y6 y7 y8 y9 cx aE ad v0 v1 v2 v3 v4 v5 v6 v7 v8 v9 v10 v11 aw;go_wp2_with fail;have RZ:=(((((((((((((J.r.put 0 (ag 2)).put 1 (av m)).put 2 (ag x.kind)).put 3 (ag x.id.au)).put 4 (av x.id.aq)).put 5 (av x.id.ax)).put 6 (ag x.ah)).put 7 (av x.sub)).put 8 aa).put 9 (Y A7 x.events.length c7)).put 10 (ag 0)).put 11 (av 0)).put 12 (av 0));simp only[eB,List.setIfInBounds_toArray,List.set_cons_zero,List.set_cons_succ]at RZ;have gz:=bl rb [(I af 2),(I ak m),(I af x.kind),(I af x.id.au),(I ak x.id.aq),(I ak x.id.ax),(I af x.ah),(I ak x.sub),aa,(Y A7 x.events.length c7),(I af 0),(I ak 0),(I ak 0)] wf 0;exact vM
theorem mJ(A:Option Addr)(n c:Nat)(x:ae)(w:World)(aL:(Pk.az 3++(Pk.az 0++(Pk.aQ x.enc++[]))).length=n)(h:Src w A (aA (Pk.az 3++(Pk.az 0++(Pk.aQ x.enc++[])))))(hg:x.aH):
 Calls Tryz.prog 72 #[Y A n c] w λe w'=>(∃A' c',e=.returned (.tuple #[ey x A' c',ag 0])/\(∀S:Nat->Prop,(∀b,S b->b<w.heap.size)->SliceAt aN w' S A' x.events))/\Below w w w':=by
 have L1:=aG 3 (by omega);have L2:=aG 0 (by omega);have bT:=x.bZ hg;have L3:=cR x.enc (by omega);have L4:(Pk.aQ x.enc).length=(Pk.az x.enc.length).length+x.enc.length:=by unfold Pk.aQ;rw[List.length_append]
 have L5:([]:List UInt8).length=0:=rfl;have aO:n<=13200:=by
  rw[<-aL];simp only[List.length_append];omega
 obtain⟨w0,ar⟩:=am (w.alloc (.cells #[ag 0,av 0,ag 0,ag 0,av 0,av 0,ag 0,av 0,aa,aa,ag 0,av 0,av 0] 161));have ay:ai w0 w 161 eB.toArray:=by rw[ar];exact ai.made _ _ _
 have aU:=aV ar;have aC:Src w0 A (aA (Pk.az 3++(Pk.az 0++(Pk.aQ x.enc++[])))):=by
  rcases h with h | ⟨b,off,e1,hc⟩
  ·exact .inl h
  ·exact .inr ⟨b,off,e1,λj u hu=>(aU.cell (p:=⟨b,off+j,none⟩) (World.block_lt_of_cell? w _ (hc j u hu))).trans (hc j u hu)⟩
 have new:=ek A n c _ w0 aL aC (by omega) (λ_=>False) (λ_ h=>h.elim);have cc:=Lib.hid aL;obtain⟨rb,bh⟩:=am w.heap.size;rw[<-bh]at ay;have bn:=Lib.hid bh;have bF:=λw=>lx 3 w;clear h aC aL bh;go_enter Tryz.func72,Tryz.ntmps72;go_wp2_with fail;rw[<-ar,<-bn.out];clear ar;refine new.mono ?_;clear new;rintro e w1 ⟨q,rfl,hq,ba,b1⟩;have bz:=ay.below b1 ay.lt;have ch:=Lib.hid bz.lt;have ba:=ba.up (.inr rfl);have a6:=aU.trans (b1.mono aU.size);have bH:=Lib.hid a6.size;have bx:w.heap.size<=q:=Nat.le_trans aU.size hq;have bq:rb≠q:=by have:=ay.lt;omega
 have aZ:=fp _ q 3 6 _ w1 (.inl rfl) (by omega) (by omega) ba (by simp only[List.length_append];omega);go_wp2_with fail;refine aZ.mono ?_;clear aZ;rintro e w2 ⟨rfl,ao,g2⟩;have bN:ai w2 rb 161 _:=bz.grown g2 (λe=>by injection e with e;omega);have bo:Below w w w2:=a6.grown g2 a6.size (λk e=>by injection e with e;omega);obtain⟨w3,bd⟩:=am (w2.alloc (.cells #[ag 3,av 0,ag 0,ag 0,av 0,av 0,ag 0,av 0,aa,aa,ag 0,av 0,av 0] 161));have b3:=aV bd;obtain⟨xb,a0⟩:=am w2.heap.size;have hB:w1.heap.size<=xb:=by rw[a0];exact g2.size
 have bQ:=ao.h5;have D3:DS 161 eB w (λb=>b=q\/w1.heap.size<=b) q xb rb w3 [ag 3,av 0,ag 0,ag 0,av 0,av 0,ag 0,av 0,aa,aa,ag 0,av 0,av 0] _:=
  ⟨ao.below b3,by rw[bd,a0];exact ai.made _ _ _,bN.below b3 bN.lt,bo.trans (b3.mono bo.size),by omega,bq,by have:=bN.lt;omega,bx,by have:=bo.size;omega,.inr hB,.inl rfl⟩
 go_wp2_with fail;rw[<-bd,<-a0];clear bd a0 b3 bo bN ao g2 a6 bz b1 aU ay ba bF;have n4:=cM _ q 0 _ w3 D3.tq (by omega) D3.rd (by first | (simp;done) | (simp only[List.length_append];omega));refine n4.mono ?_;clear n4;rintro e w4 ⟨rfl,bp,g4⟩;have D4:=D3.grown g4 bp;clear D3 g4 bp;have bg:=D4.x.cell 1;have bV:=D4.x.free 1;simp at bg;have D5:=D4.put 1 (av 0);simp only[List.set_cons_zero,List.set_cons_succ]at D5;clear D4;obtain⟨w5,a8⟩:=am (w4.setCell ⟨xb,1,none⟩ (av 0));rw[<-a8]at D5;have z0:=D5.x.cell 0;simp at z0;rw[a8]at z0;go_wp2_with fail;rw[<-a8];rw[<-a8]at z0;clear a8 bg bV;have bA:x.enc.length<=n:=by
  rw[<-cc.out];simp only[List.length_append];omega
 have n6:=eZ _ q n x.enc [] w5 D5.tq bA (by omega) D5.rd (by simp);refine n6.mono ?_;clear n6;rintro e w6 ⟨u6,rfl,r6,b2,g6⟩;have D6:=D5.read g6 b2;clear D5 g6 b2 z0;obtain⟨A6,m6,bX,rfl,bm,cC⟩:=r6.open_;have n7:=h7 A6 m6 bX x w6 bm.out r6.src.2 hg;unfold ae.cellsOf at n7;go_wp2_with fail;refine n7.mono ?_;clear n7;rintro e w7 ⟨A7,c7,rfl,aF,bt⟩;have D7:=D6.below bt;have HW:=di D6.b.size D6.r.lt;have bj:=Lib.hid D6.x.lt;clear D6 r6;obtain⟨w8,aM⟩:=am (w7.alloc (.cells (a3 x A7 c7) 132));have bB:=aV aM;have D8:=D7.below bB;have aD:w7.heap.size≠xb:=by have:=D7.x.lt;omega
 have a2:=D8.x.cell 2;have bG:=D8.x.cell 3;have bw:=D8.x.cell 4;have bO:=D8.x.cell 5;have bk:=D8.x.cell 6;have cl:=D8.x.cell 7;have a9:=D8.x.cell 8;have aK:=D8.x.cell 9;have b5:=D8.x.free 2;have bY:=D8.x.free 3;have b8:=D8.x.free 4;have ca:=D8.x.free 5;have aW:=D8.x.free 6;have aX:=D8.x.free 7;have aj:=D8.x.free 8;have aB:=D8.x.free 9;simp at a2 bG bw bO bk cl a9 aK;have M:=((((((((D8.put 2 (ag x.kind)).put 3 (ag x.id.au)).put 4 (av x.id.aq)).put 5 (av x.id.ax)).put 6 (ag x.ah)).put 7 (av x.sub)).put 8 aa).put 9 (Y A7 x.events.length c7));simp only[List.set_cons_zero,List.set_cons_succ]at M;obtain⟨w9,br⟩:=am ((((((((w8.setCell ⟨xb,2,none⟩ (ag x.kind)).setCell ⟨xb,3,none⟩ (ag x.id.au)).setCell ⟨xb,4,none⟩ (av x.id.aq)).setCell ⟨xb,5,none⟩ (av x.id.ax)).setCell ⟨xb,6,none⟩ (ag x.ah)).setCell ⟨xb,7,none⟩ (av x.sub)).setCell ⟨xb,8,none⟩ aa).setCell ⟨xb,9,none⟩ (Y A7 x.events.length c7));rw[<-br]at M;have aS:w8.grownBy w9 (some xb):=by rw[br];exact bl xb [(I af x.kind),(I af x.id.au),(I ak x.id.aq),(I ak x.id.ax),(I af x.ah),(I ak x.sub),aa,(Y A7 x.events.length c7)] w8 2
 have z0:=M.x.cell 0;simp at z0;have SL:∀S:Nat->Prop,(∀b,S b->b<w.heap.size\/b=rb)->SliceAt aN w9 S A7 x.events:=λS hS=>(((aF (λb=>S b\/b=xb) (λb a7=>by
  have:=HW.out;rcases a7 with a7 | a7
  ·rcases hS b a7 with h | h<;>omega
  ·have:=bj.out;omega)).below bB).goes (aJ aS (.inr rfl))).weak (λb a7=>.inl a7)
 clear D8 D7;rw[aM]at a2 bG bw bO bk cl a9 aK b5 bY b8 ca aW aX aj aB;rw[br,aM]at z0;go_wp2_with fail;rw[<-aM,<-br];clear aM br z0 a2 bG bw bO bk cl a9 aK b5 bY b8 ca aW aX aj aB;have dn:=eE _ q w9 M.rd;have bi:=kp x A7 c7 (λ_=>False) w9 hg (SL (λ_=>False) (λ_ h=>h.elim));have y0:=M.x.cell 0;have y1:=M.x.cell 1;have y2:=M.x.cell 2;have bb:=M.x.cell 3;have y4:=M.x.cell 4;have y5:=M.x.cell 5;have y6:=M.x.cell 6;have y7:=M.x.cell 7;have y8:=M.x.cell 8;have y9:=M.x.cell 9;have cx:=M.x.cell 10;have aE:=M.x.cell 11;have ad:=M.x.cell 12;simp at y0 y1 y2 bb y4 y5 y6 y7 y8 y9 cx aE ad;refine dn.mono ?_;clear dn;rintro e wd ⟨rfl,rfl⟩;go_wp2_with fail;refine bi.mono ?_;clear bi;rintro e wf ⟨rfl,cm⟩;have J:=M.below cm;clear y0 y1 y2 bb y4 y5 y6 y7 y8 y9 cx aE ad;have y0:=J.x.cell 0;have y1:=J.x.cell 1;have y2:=J.x.cell 2;have bb:=J.x.cell 3;have y4:=J.x.cell 4;have y5:=J.x.cell 5;have y6:=J.x.cell 6;have y7:=J.x.cell 7;have y8:=J.x.cell 8;have y9:=J.x.cell 9;have cx:=J.x.cell 10;have aE:=J.x.cell 11;have ad:=J.x.cell 12;have v0:=J.r.cell 0;have v1:=J.r.cell 1;have v2:=J.r.cell 2;have v3:=J.r.cell 3;have v4:=J.r.cell 4;have v5:=J.r.cell 5;have v6:=J.r.cell 6;have v7:=J.r.cell 7;have v8:=J.r.cell 8;have v9:=J.r.cell 9;have v10:=J.r.cell 10;have v11:=J.r.cell 11;have aw:=J.r.cell 12;have f0:=J.r.free 0;have f1:=J.r.free 1;have f2:=J.r.free 2;have f3:=J.r.free 3;have f4:=J.r.free 4;have f5:=J.r.free 5;have f6:=J.r.free 6;have f7:=J.r.free 7;have f8:=J.r.free 8;have f9:=J.r.free 9;have f10:=J.r.free 10;have f11:=J.r.free 11;have f12:=J.r.free 12;simp[eB]at y0 y1 y2 bb y4 y5 y6 y7 y8 y9 cx aE ad v0 v1 v2 v3 v4 v5 v6 v7 v8 v9 v10 v11 aw;go_wp2_with fail;have RZ:=(((((((((((((J.r.put 0 (ag 3)).put 1 (av 0)).put 2 (ag x.kind)).put 3 (ag x.id.au)).put 4 (av x.id.aq)).put 5 (av x.id.ax)).put 6 (ag x.ah)).put 7 (av x.sub)).put 8 aa).put 9 (Y A7 x.events.length c7)).put 10 (ag 0)).put 11 (av 0)).put 12 (av 0));simp only[eB,List.setIfInBounds_toArray,List.set_cons_zero,List.set_cons_succ]at RZ;have gz:=bl rb [(I af 3),(I ak 0),(I af x.kind),(I af x.id.au),(I ak x.id.aq),(I ak x.id.ax),(I af x.ah),(I ak x.sub),aa,(Y A7 x.events.length c7),(I af 0),(I ak 0),(I ak 0)] wf 0;exact vM
end Go.Proofs.YtgblliofomgggaaGreat
