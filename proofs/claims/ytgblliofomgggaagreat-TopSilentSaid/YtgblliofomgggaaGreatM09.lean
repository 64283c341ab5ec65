import Derived.Deep.RegionLaw
import Derived.Maps.Keyed
import Derived.IntWalk
import Derived.Test.YtgblliofomgggaaGreatM01
import Derived.Test.YtgblliofomgggaaGreatM05
import Derived.Test.YtgblliofomgggaaGreatM08
import Derived.Test.YtgblliofomgggaaGreatM03
namespace Go.Proofs.YtgblliofomgggaaGreat
set_option maxRecDepth 100000
set_option maxHeartbeats 4000000
open Go.RowKit a7 bA
open Go.IntKind renaming i64 -> af,u64 -> ak
open Go.Value renaming int -> I,slice -> Y,pointer -> aL,agg -> aE
def over(cs:Array Value):Nat->List Value->Array Value
 | _,[]=>cs
 | o,v::r=>over (cs.setIfInBounds o v) (o+1) r
theorem fr:∀ (vs:List Value) (o:Nat) (cs:Array Value),(over cs o vs).size=cs.size
 | [],_,_=>rfl
 | v::r,o,cs=>by
  rw[over,fr r];simp
theorem gw:∀ (vs:List Value) (o:Nat) (cs:Array Value) (k:Nat),o+vs.length<=cs.size->(over cs o vs)[k]? =if o<=k/\k<o+vs.length then vs[k-o]? else cs[k]?
 | [],o,cs,k,_=>by
  rw[over,if_neg (by simp)]
 | v::r,o,cs,k,h=>by
  rw[List.length_cons]at h;rw[over,gw r (o+1) _ k (by simp;omega)];by_cases h1:o+1<=k/\k<o+1+r.length
  ·rw[if_pos h1,if_pos (by rw[List.length_cons];omega),show k-o=(k- (o+1))+1 by omega,List.getElem?_cons_succ]
  ·rw[if_neg h1];by_cases h2:k=o
   ·subst h2;rw[if_pos (by rw[List.length_cons];omega),Nat.sub_self,List.getElem?_cons_zero,Array.getElem?_eq_getElem (by simp;omega)];simp
   ·rw[if_neg (by rw[List.length_cons];omega)];simp[Array.getElem?_setIfInBounds_ne (Ne.symm h2)]
theorem ai.over{w:World}{g:Nat}{t:TypeId}:∀ (vs:List Value) (o:Nat) {w:World} {cs:Array Value},ai w g t cs->ai (w.setCells g o vs) g t (over cs o vs)
 | [],_,_,_,h=>h
 | v::r,o,_,_,h=>ai.over (w:=w) r (o+1) (h.put o v)
theorem eD(g:Nat):∀ (vs:List Value) (o:Nat) (w:World),w.grownBy (w.setCells g o vs) (some g)
 | [],_,w=>World.grownBy.refl w _
 | v::r,o,w=>bX (aR w g o v) (eD g r (o+1) _)
theorem w8{k n i:Nat}{cur:Array Value}{xs zs:List Value}(hl:xs.length=n*k)(hc:cur.toList.take (n*k)=xs)(hs:n*k<=cur.size)(hz:zs.length=k)(hi:i<n):
 ((over (over cur (i*k) (xs.drop ((i+1)*k))) ((n-1)*k) zs).toList).take ((n-1)*k)=xs.take (i*k)++xs.drop ((i+1)*k):=by
 obtain⟨m,rfl⟩:∃m,n=m+1:=⟨n-1,by omega⟩;have e1:(m+1)*k=m*k+k:=by rw[Nat.add_mul,Nat.one_mul]
 have a5:(i+1)*k=i*k+k:=by rw[Nat.add_mul,Nat.one_mul]
 have e3:i*k<=m*k:=Nat.mul_le_mul_right _ (by omega);rw[show m+1-1=m from rfl];have hd:(xs.drop ((i+1)*k)).length=m*k-i*k:=by rw[List.length_drop,hl,e1,a5];omega
 apply List.ext_getElem?;intro j;by_cases hj:j<m*k
 ·rw[List.getElem?_take_of_lt hj,Array.getElem?_toList,gw _ _ _ _ (by rw[fr,hz];omega),if_neg (by omega),gw _ _ _ _ (by rw[hd];omega)];by_cases h1:j<i*k
  ·rw[if_neg (by omega),List.getElem?_append_left (by rw[List.length_take,hl];omega),List.getElem?_take_of_lt h1,<-hc,List.getElem?_take_of_lt (by omega),Array.getElem?_toList]
  ·rw[if_pos (by rw[hd];omega),List.getElem?_append_right (by rw[List.length_take,hl];omega)];congr 1;rw[List.length_take,hl];omega
 ·rw[List.getElem?_eq_none (by rw[List.length_take];omega),List.getElem?_eq_none (by rw[List.length_append,hd,List.length_take,hl];omega)]
theorem mo{k:Nat}:∀ (us:List (List Value)) (i:Nat),(∀u∈us,u.length=k)->i<us.length->(us.eraseIdx i).flatten=us.flatten.take (i*k)++us.flatten.drop ((i+1)*k)
 | [],i,_,h=>by simp at h
 | u::us,0,hu,_=>by
  have:=hu u (by simp);rw[List.eraseIdx_cons_zero,Nat.zero_mul,List.take_zero,List.nil_append,List.flatten_cons,Nat.zero_add,Nat.one_mul,<-this,List.drop_left]
 | u::us,i+1,hu,h=>by
  have h1:=hu u (by simp);rw[List.eraseIdx_cons_succ,List.flatten_cons,mo us i (λv hv=>hu v (by simp[hv])) (by simpa using h),List.flatten_cons];have e1:(i+1)*k=u.length+i*k:=(by rw[h1,Nat.add_mul];omega);have a5:(i+1+1)*k=u.length+(i+1)*k:=(by rw[h1,Nat.add_mul (i+1)];omega);have e3:List.take ((i+1)*k) (u++us.flatten)=u++List.take (i*k) us.flatten:=(by rw[e1,List.take_length_add_append]);have e4:List.drop ((i+1+1)*k) (u++us.flatten)=List.drop ((i+1)*k) us.flatten:=(by rw[a5,List.drop_length_add_append]);rw[e3,e4,List.append_assoc]
theorem aD.erase{α:Type}{r:dD α}{e:TypeId}{w w':World}{base:Nat}{S:Nat->Prop}{g n c i:Nat}{l:List α}{cur:Array Value}{zs:List Value}(aL:n=l.length)(h:aD r e w base S (Y (aj g) n c) l)(a7:ai w g e cur)(hi:i<n)(hz:zs.length=r.k)
 (hw:w'=(w.setCells g (i*r.k) ((cur.toList.take (n*r.k)).drop ((i+1)*r.k))).setCells g ((n-1)*r.k) zs):
 aD r e w' base S (Y (aj g) (n-1) c) (l.eraseIdx i)/\w.grownBy w' (some g):=by
 have I:w.grownBy w' (some g):=by rw[hw];exact bX (eD g _ _ _) (eD g _ _ _)
 refine⟨?_,I⟩;obtain⟨us,h1,h2,a1⟩:=h;have hl:∀u∈us,u.length=r.k:=λu hu=>by
  obtain⟨j,hj,rfl⟩:=List.getElem_of_mem hu;exact r.len (a1 j _ _ (List.getElem?_eq_getElem hj) (List.getElem?_eq_getElem (by omega)))
 rcases h1.2 with⟨e1,_⟩ | ⟨g',cap,ah,hv,hg,hh,aA,ao,hcs,M⟩
 ·cases e1
 ·injection hv with e1 a5 e3;injection e1 with e1;injection e1 with e1;subst e1;have aq:ah=cur:=by
   have aG:w.heap[g]? =some (.cells cur e (0,0)):=a7;rw[aG]at hh;injection hh with hh;injection hh with hh;exact hh.symm
  rw[aq]at M hcs;rw[<-aL]at M h1;have hlen:us.flatten.length=n*r.k:=(by rw[cd us hl,h2,aL]);have hG:Goes (bm S (Y (aj g) n c)) w (bm S (Y (aj g) (n-1) c)) w':=⟨I.os,I.tape,I.output,I.size,λb a7 aL=>I.block b a7 (λe=>aL (.inr (by rw[e];rfl))),λb a7 hs=>hs⟩;have bJ:n*r.k<=cur.size:=(by rw[hcs];exact Nat.mul_le_mul_right _ (by omega));refine⟨us.eraseIdx i,⟨?_,.inr ⟨g,c,over (over cur (i*r.k) ((cur.toList.take (n*r.k)).drop ((i+1)*r.k))) ((n-1)*r.k) zs,?_,hg,?_,by rw[List.length_eraseIdx];split<;>omega,by omega,by rw[fr,fr,hcs,e3],?_⟩⟩,?_,λj u a hu ha=>?_⟩
  ·rw[cd _ (λu hu=>hl u (List.mem_of_mem_eraseIdx hu)),List.length_eraseIdx,List.length_eraseIdx,if_pos (by omega),if_pos (by omega),h2]
  ·rw[List.length_eraseIdx,if_pos (by omega),aL]
  ·rw[hw];exact ai.over (w:=w) _ _ (ai.over (w:=w) _ _ a7)
  ·rw[List.length_eraseIdx,if_pos (by omega),<-aL,w8 (by rw[M];exact hlen) rfl bJ hz hi,M,mo us i hl (by omega)]
  ·rw[List.length_eraseIdx,List.length_eraseIdx,h2]
  ·rw[List.getElem?_eraseIdx]at hu ha;split at hu
   ·rename_i hj;rw[if_pos hj]at ha;exact r.goes (a1 j u a hu ha) hG
   ·rename_i hj;rw[if_neg hj]at ha;exact r.goes (a1 (j+1) u a hu ha) hG
theorem jf{P:Program}(w:World)(t e ty:TypeId)(z:Value)(zs:List Value)(ht:P.underlying t=some (.slice e))(hv:∀w,(zeroValue e).run P w=.ok z w)(hz:(Builtin.zeroCells z.cells 1).toList=zs)(h1:∀v∈zs,v.oneCell'=true)(b o c:Nat)
 (hc:∀j,j<zs.length->(w.cell? ⟨b,o+j,none⟩).isSome=true) (hf:∀j,j<zs.length->w.frozen? ⟨b,o+j,none⟩=false):
 (Builtin.clear_ #[t] ty #[Y (some ⟨b,o,none⟩) 1 c]).run P w=.ok (.tuple #[]) (w.setCells b o zs):=by
 have aw:=run_storeCells_cells (P:=P) b o zs 0 w (by simpa using hc) (by simpa using hf) h1;simp only[Nat.add_zero]at aw;simp[Builtin.clear_,run_underlying ht,hv,hz,aw]
theorem As(w:World):(zeroValue 148).run Tryz.prog w=.ok (gB false) w:=by kernel_rfl
theorem yE(w:World):(zeroValue 132).run Tryz.prog w=.ok (cZ) w:=by kernel_rfl
def oo:List Value:=[I af 0,I af 0,I ak 0,I ak 0,I af 0,I ak 0,aa,aa,.bool false]
def lK:List Value:=[I af 0,I af 0,I ak 0,I ak 0,I af 0,I ak 0,aa,aa]
theorem CT:(Builtin.zeroCells (Value.agg oo.toArray).cells 1).toList=oo:=by kernel_rfl
theorem CL:(Builtin.zeroCells (Value.agg lK.toArray).cells 1).toList=lK:=by kernel_rfl
theorem vD{P:Prop}(h:P:=by
 rcases h1.2 with⟨e1,a5⟩ | ⟨g',cap,ah,hv,hg,hh,aA,ao,hcs,M⟩
 ·omega
 ·injection hv with e1 a5 e3;exact⟨g',ah,e1,hh,by omega,by rw[hcs,e3];rfl⟩
 ):P:=h
theorem rg(base:Nat)(S:Nat->Prop)(A:Option Addr)(n c i j:Nat)(l:List ct)(w:World)(hj:j=i+1)(aL:n=l.length)(hm:n<=1000)(h:aD bg 148 w base S (Y A n c) l)(hi:i<n):
 Calls Tryz.prog 278 #[Y A n c,ag i,ag j] w λe w'=>e=.returned (Y A (n-1) c)/\aD bg 148 w' base S (Y A (n-1) c) (l.eraseIdx i)/\w.grownBy w' (Value.slice A n c).ownBlock:=by
 obtain⟨i0,z0,bM,bL,bB,bJ,bR⟩:=aS Tryz.oi;obtain⟨g,cur,rfl,a7,aA,hcs⟩:∃g cur,A=some ⟨g,0,none⟩/\ai w g 148 cur/\n<=c/\cur.size=c*9:=by
  obtain⟨us,h1,_⟩:=h;exact vD
 have HB:=di h a7;have au:=Lib.hid hcs;have HN:=Lib.hid aL;have k1:(0:Int)<=(i:Int):=by omega
 have k2:(i:Int)<=(c:Int):=by omega
 have k3:(0:Int)<=(j:Int):=by omega
 have k4:(n:Int)<=(c:Int):=by omega
 have k5:((i:Int)==(j:Int))=false:=by rw[beq_eq_false_iff_ne];omega
 have k6:(j:Int)<=(n:Int):=by omega
 have k7:(i:Int)<=(j:Int):=by omega
 have k8:i<=c:=by omega
 have k9:j<=n:=by omega
 have HJ:=Lib.hid hj;obtain⟨Aj,hA⟩:∃Aj,(if c=j then some (⟨g,0,none⟩:Addr)else some ⟨g,j*9,none⟩)=some Aj:=by
  by_cases e:c=j
  ·exact⟨_,by rw[if_pos e]⟩
  ·exact⟨_,by rw[if_neg e]⟩
 clear hj;clear h aL a7 hcs;go_enter Tryz.func278,Tryz.ntmps278;go_wp2_with fail;refine wp_region_held_drew (S:=λ_=>True) (by kernel_rfl) trivial (λJ=>?_);refine tk 0 J ?_;refine tk 1 J ?_;refine tk 2 J ?_;refine tk 3 J ?_;refine tk 4 J ?_;refine tk 5 J ?_;obtain⟨m,aK⟩:=am (n-1);have em:i+(n-j)=m:=by have:=HJ.out;omega
 have ae:ai w.drew g 148 cur:=HB.out.2.below ⟨rfl,rfl,rfl,Nat.le_refl _,λ_ _=>rfl⟩ HB.out.2.lt;have aq:cur.size=c*9:=au.out;obtain⟨news,I⟩:=am ((cur.toList.take (n*9)).drop (j*9));have cu:news.length=(n-j)*9:=by
  rw[I,List.length_drop,List.length_take,Array.length_toList,aq];omega
 have fK:∀u∈news,u.oneCell'=true:=by
  intro u hu;rw[I]at hu;have bb:=List.mem_of_mem_drop hu;obtain⟨us,h1,h2,a1⟩:=HB.out.1;rcases h1.2 with⟨e1,_⟩ | ⟨g',cap,ah,hv,hg,hh,ar,ao,av,M⟩
  ·cases e1
  ·injection hv with e1 a5 e3;injection e1 with e1;injection e1 with e1;subst e1;have aG:w.heap[g]? =some (.cells cur 148 (0,0)):=HB.out.2;rw[aG]at hh;injection hh with hh;injection hh with hh;have e4:bg.k=9:=rfl;rw[<-hh,e4,<-HN.out]at M;rw[M]at bb;obtain⟨y,hy,bN⟩:=List.mem_flatten.1 bb;obtain⟨b,a7⟩:=ip h2 a1 y hy;exact bg.one a7 u bN
 have a3:∀t u,news[t]? =some u->w.drew.cell? (Aj.add t)=some u:=by
  intro t u hu;have ht:t<(n-j)*9:=by
   have:=(List.getElem?_eq_some_iff.1 hu).1;omega
  have e:¬c=j:=(by omega);rw[if_neg e]at hA;injection hA with hA;rw[<-hA,Addr.add_lit,ae.cell];rw[I,List.getElem?_drop,List.getElem?_take_of_lt (by omega),Array.getElem?_toList]at hu;exact hu
 have aa:∀t,t<news.length->(w.drew.cell? ⟨g,0+i*9+t,none⟩).isSome=true/\w.drew.frozen? ⟨g,0+i*9+t,none⟩=false:=by
  intro t ht;refine⟨?_,ae.free _⟩;rw[ae.cell,Array.getElem?_eq_getElem (by have:=HJ.out;omega)];rfl
 obtain⟨W1,aj⟩:=am (w.drew.setCells g (0+i*9) news);have aE:ai W1 g 148 (over cur (0+i*9) news):=by rw[aj];exact ai.over (w:=w) _ _ ae
 have bc:∀ty,(Builtin.clear_ #[124] ty #[Y (some ⟨g,m*9,none⟩) 1 (c-m)]).run Tryz.prog W1=.ok (.tuple #[]) (W1.setCells g (m*9) oo):=λty=>
  jf W1 124 148 ty _ oo Tryz.underlying124 As CT (by decide) g (m*9) (c-m) (λt ht=>by
   rw[aE.cell,Array.getElem?_eq_getElem (by have e5:t<9:=ht;rw[fr];omega)];rfl) (λt ht=>aE.free _)
 have aw:n-m=1:=by omega
 have ao:¬c=m:=by omega
 have m1:(0:Int)<=(m:Int):=by omega
 have m2:(m:Int)<=(n:Int):=by omega
 have HW:=Lib.hid aj;have HE:=di I aK;have HS:=dx cu a3 fK aa;clear cu a3 fK aa I aK aj aE aq;refine aP 6 (λK ad=>?_);clear J;refine step_append_room rfl (.tmp 22) (.tmp 25) 124 rfl 148 i0 9 Tryz.underlying124 bM bJ g 0 i c (by rfl) Aj (n-j) (c-j) news (by rfl) HS.out.1 HS.out.2.1 HS.out.2.2.1 (by omega) HS.out.2.2.2 ?_;rw[em,<-HW.out];refine ad.out _ _ (trivial) (λJ=>?_);clear ad K;refine aP 7 (λK ad=>?_);clear J;go_simp;refine ad.out _ _ (trivial) (λJ=>?_);clear ad K;refine cB ?_ _;go_wp2;obtain⟨W2,af⟩:=am (W1.setCells g (m*9) oo);rw[<-af];have hw:W2=(w.drew.setCells g (i*bg.k) ((cur.toList.take (n*bg.k)).drop ((i+1)*bg.k))).setCells g ((n-1)*bg.k) oo:=by
  have e4:bg.k=9:=rfl;rw[e4,af,HW.out,HE.out.1,HE.out.2,HJ.out,Nat.zero_add]
 have cc:Below w w w.drew:=⟨rfl,rfl,rfl,Nat.le_refl _,λ_ _=>rfl⟩;have ak:=HB.out.1.below cc;have bk:oo.length=bg.k:=by decide
 have er:=aD.erase HN.out ak (HB.out.2.below cc HB.out.2.lt) hi bk hw;have HM:=HE.out.2;clear hw af bc J hA;go_ret;rw[<-HM]at er ⊢;exact⟨rfl,er.1,er.2.os,er.2.tape,er.2.output,er.2.size,er.2.block⟩
def iu(l:List ct)(id:PId):List ct:=l.eraseP λt=>decide (t.entry.id=id)
theorem nk{α:Type}(p:α->Bool):∀ (l:List α) (i:Nat) (h:i<l.length),(l.take i).any p=false->p l[i]=true->l.eraseP p=l.eraseIdx i
 | [],i,h,_,_=>by simp at h
 | x::l,0,h,_,h2=>by
  rw[List.eraseP_cons_of_pos (show p x=true from h2)];rfl
 | x::l,i+1,h,h1,h2=>by
  simp only[List.take_succ_cons,List.any_cons,Bool.or_eq_false_iff]at h1;rw[List.eraseP_cons_of_neg (by rw[h1.1];decide),nk p l i (by simpa using h) h1.2 (by simpa using h2)];rfl
theorem q1{α:Type}(p:α->Bool)(l:List α)(h:l.any p=false):l.eraseP p=l:=List.eraseP_of_forall_not (λx hx hp=>by
 rw[List.any_eq_false]at h;exact h x hx hp)
theorem rk(S:Nat->Prop)(A:Option Addr)(n c:Nat)(l:List ct)(id:PId)(w:World)(aL:n=l.length)(hm:n<=1000)(h:SliceAt bg w S A l)(hg:∀x∈l,x.entry.aH):
 Calls Tryz.prog 237 #[Y A n c,id.val] w λe w'=>∃v,e=.returned v/\aD bg 148 w' w (λb=>b<w.heap.size) v (iu l id)/\Below w w w':=by
 unfold PId.val;obtain⟨w0,ar⟩:=am (w.alloc (.cells (bY id) 32));have hC:ai w0 w 32 (bY id):=by rw[ar];exact ai.made _ _ _
 have aU:=aV ar;obtain⟨cb,M⟩:=am w.heap.size;rw[<-M]at hC;have aF:=Lib.hid M;clear M;have cp:=eG S A n c l w0 aL hm (h.below aU) hg;have HH:=di aL (h.below aU);clear h aL;rcases gW (λx:ct=>decide (x.entry.id=id)) l with⟨h1,h2⟩ | ⟨i,hi,h1,h2,a1⟩
 ·have HS:Hid (iu l id=l):=q1 _ l h1;have au:dj l id= -1:=h2;have J:=Lib.hid au;clear h1 h2 au;go_enter Tryz.func237,Tryz.ntmps237;go_wp2_with fail;rw[<-ar,<-aF.out];clear ar;refine cp.mono ?_;clear cp;rintro e w1 ⟨v1,rfl,O1,b1⟩;have sk:=iv S A n c l id w1 HH.out.1 (by omega) (HH.out.2.below b1);rw[J.out]at sk;unfold PId.val at sk;have ao:=hC.below b1 hC.lt;obtain⟨ba,c1,c2⟩:=ao.c3;simp at ba c1 c2;go_wp2_with fail;refine sk.mono ?_;clear sk;rintro e w2 ⟨rfl,b2⟩;go_wp2;go_ret;rw[HS.out];exact⟨_,rfl,((O1.below b2).mono aU.size).weak (λb a7=>Nat.lt_of_lt_of_le a7 aU.size),(aU.trans (b1.mono aU.size)).trans (b2.mono (Nat.le_trans aU.size b1.size))⟩
 ·have HS:Hid (iu l id=l.eraseIdx i):=nk _ l i hi h1 h2;have au:dj l id=(i:Int):=a1;have J:=Lib.hid au;have az:i<n:=(by have:=HH.out.1;omega);clear h1 h2 a1 au;go_enter Tryz.func237,Tryz.ntmps237;go_wp2_with fail;rw[<-ar,<-aF.out];clear ar;refine cp.mono ?_;clear cp;rintro e w1 ⟨v1,rfl,O1,b1⟩;have sk:=iv S A n c l id w1 HH.out.1 (by omega) (HH.out.2.below b1);rw[J.out]at sk;unfold PId.val at sk;have ao:=hC.below b1 hC.lt;obtain⟨ba,c1,c2⟩:=ao.c3;simp at ba c1 c2;obtain⟨A1,n1,I,rfl,bv,bU⟩:=O1.form;obtain rfl:n1=n:=(by rw[bv.out,HH.out.1]);go_wp2_with fail;refine sk.mono ?_;clear sk;rintro e w2 ⟨rfl,b2⟩;have g0:decide ((0:Int)<=(i:Int))=true:=decide_eq_true (by omega);have O2:=O1.below b2;have dl:=rg w0 _ A1 n1 I i (i+1) l w2 rfl HH.out.1 hm O2 az;have ec:((i+1:Nat):Int)=(i:Int)+1:=(by omega);rw[ec]at dl;clear ec;go_wp2_with fail;refine dl.mono ?_;clear dl;rintro e w3 ⟨rfl,O3,g3⟩;have bo:=(aU.trans (b1.mono aU.size)).trans (b2.mono (Nat.le_trans aU.size b1.size));have aQ:∀k,(Value.slice A1 n1 I).ownBlock=some k->w.heap.size<=k:=λk hk=>Nat.le_trans aU.size (O2.lt hk).1;go_wp2;go_ret;rw[HS.out];exact⟨_,rfl,(O3.mono aU.size).weak (λb a7=>Nat.lt_of_lt_of_le a7 aU.size),bo.grown g3 bo.size aQ⟩
theorem qH(K cb:Nat)(pr:ae->Bool)(base:Nat)(S:Nat->Prop)(A:Option Addr)(n c:Nat)(p:List ae)(w:World)(ad:Real K)(aL:n=p.length)(hm:n<=1)(h:aD aB 132 w base S (Y A n c) p)
 (hf:∀x∈p,∀ (A:Option Addr) (c:Nat) (w':World),Below w w w'->SliceAt aN w' (λ_=>False) A x.events->Calls Tryz.prog K #[aE (x.cellsOf A c).toArray,aj cb] w' λe w''=>e=.returned (.bool (pr x))/\Below w' w' w''):
 Calls Tryz.prog 193 #[Y A n c,.func (.func K) #[] #[aj cb]] w λe w'=>∃n',e=.returned (Y A n' c)/\aD aB 132 w' base S (Y A n' c) (p.filter λx=> !pr x)/\w.grownBy w' (Value.slice A n c).ownBlock:=by
 have J:=n5 K cb pr (λ_=>False) A n c p w ad aL (by omega) (h.slice (λ_ h=>h.elim) (λ_ h=>h.elim)) hf;have HH:=di h aL;rcases gW pr p with⟨h1,h2⟩ | ⟨i,hi,h1,h2,a1⟩
 ·have HS:Hid ((p.filter λx=> !pr x)=p):=by
   show _=_;rw[List.filter_eq_self];intro x hx;rw[List.any_eq_false]at h1;simpa using h1 x hx
  rw[h2]at J;clear h1 h2 h aL hf;go_enter Tryz.func193,Tryz.ntmps193;go_wp2_with fail;refine J.mono ?_;clear J;rintro e w1 ⟨rfl,b1⟩;go_wp2;go_ret;rw[HS.out];exact⟨_,rfl,HH.out.1.below b1,b1.os,b1.tape,b1.output,b1.size,λb a7 _=>b1.block b a7⟩
 ·obtain rfl:n=1:=(by omega);obtain rfl:i=0:=(by omega);obtain⟨x,rfl⟩:∃x,p=[x]:=List.length_eq_one_iff.1 aL.symm;have HS:Hid (([x].filter λx=> !pr x)=[]):=by
   show _=_;have h4:pr x=true:=h2;simp[h4]
  rw[a1]at J;obtain⟨g,cur,rfl,a7,aA,hcs⟩:∃g cur,A=some ⟨g,0,none⟩/\ai w g 132 cur/\1<=c/\cur.size=c*8:=by
   obtain⟨us,h1,_⟩:=HH.out.1;exact vD
  have HB:=di a7 hcs;clear h1 h2 a1 h aL hf a7 hcs;go_enter Tryz.func193,Tryz.ntmps193;go_wp2_with fail;refine J.mono ?_;clear J;rintro e w1 ⟨rfl,b1⟩;have aY:=HB.out.1.below b1 HB.out.1.lt;have bc:∀ty,(Builtin.clear_ #[46] ty #[Y (aj g) 1 c]).run Tryz.prog w1=.ok (.tuple #[]) (w1.setCells g 0 lK):=λty=>
   jf w1 46 132 ty _ lK Tryz.underlying46 yE CL (by decide) g 0 c (λt ht=>by
    have e5:t<8:=ht;have:=HB.out.2;rw[aY.cell,Array.getElem?_eq_getElem (by omega)];rfl) (λt ht=>aY.free _)
  go_wp2_with fail
  go_loop [5,6] (λa j=>a=I af 0/\j=I af 1) (λ_ _=>0)
  case atStart=>exact⟨rfl,rfl⟩
  case round=>
   obtain⟨rfl,rfl⟩:=hrel;have e8:lK.length=aB.k:=(by decide);obtain⟨w2,a8⟩:=am (w1.setCells g 0 lK);have er:=aD.erase (w':=w2) HH.out.2 (HH.out.1.below b1) aY (i:=0) (by omega) e8 (by rw[a8];simp[World.setCells]);rw[Nat.sub_self,List.eraseIdx_cons_zero]at er;have aa:=Lib.hid er;clear er aY e8;rw[<-a8]at bc;have re:¬c=0:=(by omega);clear a8;go_wp2;clear bc;go_ret;rw[HS.out];exact⟨0,rfl,aa.out.1,bX ⟨b1.os,b1.tape,b1.output,b1.size,λb a7 _=>b1.block b a7⟩ aa.out.2⟩
section
section
variable {w w':World}{base:Nat}{S S':Nat->Prop}{vL vP:Value}{l p:List ae}
theorem cu.below(h:cu w base S vL vP l p)(a7:Below w w w'):cu w' base S vL vP l p:=⟨h.L.below a7,h.P.below a7,h.ne,h.sL,h.sP⟩
theorem cu.put(h:cu w base S vL vP l p){q:Nat}(hq:S q)(i:Nat)(u:Value):cu (w.setCell ⟨q,i,none⟩ u) base S vL vP l p:=
 ⟨h.L.put (.inl hq) (λe=>h.sL q e hq) i u,h.P.put (.inl hq) (λe=>h.sP q e hq) i u,h.ne,h.sL,h.sP⟩
theorem cu.wide(h:cu w base S vL vP l p)(hs:∀b,b<w.heap.size->S' b->S b):cu w base S' vL vP l p:=
 ⟨h.L.wide (λb a7 e=>e.elim (λe=>.inl (hs b a7 e)) .inr),h.P.wide (λb a7 e=>e.elim (λe=>.inl (hs b a7 e)) .inr),h.ne,λb a7 e=>h.sL b a7 (hs b (h.L.lt a7).2 e),λb a7 e=>h.sP b a7 (hs b (h.P.lt a7).2 e)⟩
theorem cu.mono{base':Nat}(h:cu w base S vL vP l p)(a7:base'<=base):cu w base' S vL vP l p:=⟨h.L.mono a7,h.P.mono a7,h.ne,h.sL,h.sP⟩
theorem xl{aE:Value}{hS:Nat}(g:w.grownBy w' vL.ownBlock)(at_:aE.ownBlock=vL.ownBlock\/aE.ownBlock=some hS)(hs:w.heap.size<=hS):Goes (λb=>S b\/vL.ownBlock=some b) w (λb=>S b\/aE.ownBlock=some b) w':=
 ⟨g.os,g.tape,g.output,g.size,λb a7 aL=>g.block b a7 (λe=>aL (.inr e.symm)),λb a7 e=>e.elim .inl (λe=>by
  rcases at_ with a | a
  ·exact .inr (a.symm.trans e)
  ·rw[a]at e;injection e with e;omega)⟩
theorem cu.lB{aE:Value}{l':List ae}{hS:Nat}(h:cu w base S vL vP l p)(hO:aD aB 132 w' base (λb=>S b\/vP.ownBlock=some b) aE l')(g:w.grownBy w' vL.ownBlock)(at_:aE.ownBlock=vL.ownBlock\/aE.ownBlock=some hS)(hs:w.heap.size<=hS)(az:∀b,S b->b<w.heap.size):
 cu w' base S aE vP l' p:=by
 have ah:∀b,aE.ownBlock=some b->vL.ownBlock=some b\/w.heap.size<=b:=λb a7=>by
  rcases at_ with a | a
  ·exact .inl (a.symm.trans a7)
  ·rw[a]at a7;injection a7 with a7;exact .inr (by omega)
 refine⟨hO,h.P.goes (xl g at_ hs) (λb a7 e=>e.elim (h.sP b a7) (λe=>h.ne b e a7)),λb h1 h2=>?_,λb h1 h2=>?_,h.sP⟩
 ·rcases ah b h1 with a | a
  ·exact h.ne b a h2
  ·have:=(h.P.lt h2).2;omega
 ·rcases ah b h1 with a | a
  ·exact h.sL b a h2
  ·have:=az b h2;omega
theorem cu.flip(h:cu w base S vL vP l p):cu w base S vP vL p l:=⟨h.P,h.L,λb h1 h2=>h.ne b h2 h1,h.sP,h.sL⟩
end
theorem oM(id:PId)(w:World):Calls Tryz.prog 243 #[aa,id.val] w λe w'=>e=.returned (ag (-1))/\Below w w w':=by
 unfold PId.val;go_enter Tryz.func243,Tryz.ntmps243;go_wp2_with fail
 go_loop [8] (λi=>i=I af 0) (λ_=>0)
 case atStart=>rfl
 case round=>
  subst hrel;go_wp2;go_ret;exact⟨rfl,(Below.refl _ _).alloc (Nat.le_refl _) _⟩
theorem ee(id:PId)(w:World):Calls Tryz.prog 184 #[aa,id.val] w λe w'=>e=.returned (.bool false)/\Below w w w':=by
 unfold PId.val;obtain⟨w0,ar⟩:=am (w.alloc (.cells (bY id) 32));have hC:ai w0 w 32 (bY id):=by rw[ar];exact ai.made _ _ _
 have aU:=aV ar;obtain⟨cb,M⟩:=am w.heap.size;rw[<-M]at hC;have aF:=Lib.hid M;clear M;have J:=oM id w0;unfold PId.val at J;obtain⟨ba,c1,c2⟩:=hC.c3;simp at ba c1 c2;go_enter Tryz.func184,Tryz.ntmps184;go_wp2_with fail;rw[<-ar,<-aF.out];clear ar;refine J.mono ?_;clear J;rintro e w1 ⟨rfl,b1⟩;go_wp2;go_ret;exact⟨rfl,aU.trans (b1.mono aU.size)⟩
theorem fI(aq:Int)(L P:Value)(id:PId)(w:World)(hL:∃A2 aZ c2,L=Y A2 aZ c2)(bv:∃A2 aZ c2,P=Y A2 aZ c2):
 Calls Tryz.prog 123 #[bp aq L P,id.val] w λe w'=>e=.returned (.bool false)/\Below w w w':=by
 obtain⟨A2,aZ,c2,rfl⟩:=hL;obtain⟨A3,n3,c3,rfl⟩:=bv;have ha:=(Below.refl w w).alloc (Nat.le_refl _) (.cells (bT aq A2 aZ c2 A3 n3 c3) 49);have a7:=ha.alloc ha.size (.cells (bY id) 32);have bc:=ee id ((w.alloc (.cells (bT aq A2 aZ c2 A3 n3 c3) 49)).alloc (.cells (bY id) 32));unfold PId.val at bc ⊢;go_enter Tryz.func123,Tryz.ntmps123;go_wp2_with fail;refine bc.mono ?_;clear bc;rintro e w1 ⟨rfl,b1⟩;go_wp2;go_ret;exact⟨rfl,a7.trans (b1.mono a7.size)⟩
theorem sa(q base:Nat)(S:Nat->Prop)(aq:Int)(vL vP:Value)(l p:List ae)(id:PId)(w:World)(hq:ai w q 49 (bp aq vL vP))(h:cu w base S vL vP l p)(hS:S q)(az:∀b,S b->b<w.heap.size)(hp:p.length<=1):
 Calls Tryz.prog 140 #[aj q,id.val] w λe w'=>(∃v,e=.returned v)/\∃aD,aD.ownBlock=vP.ownBlock/\ai w' q 49 (bp aq vL aD)/\cu w' base S vL aD l (p.filter λx=> !decide (x.id=id))/\aw (λb=>b=q\/vP.ownBlock=some b) w w':=by
 unfold PId.val;obtain⟨w0,ar⟩:=am (w.alloc (.cells (bY id) 32));have hC:ai w0 w 32 (bY id):=by rw[ar];exact ai.made _ _ _
 have aU:=aV ar;obtain⟨cb,M⟩:=am w.heap.size;rw[<-M]at hC;have aF:=Lib.hid M;clear M;have hI:hg w0 cb 0 id:=⟨hC.cell 0,hC.cell 1,hC.cell 2⟩;have h1:=h.below aU;have bu:=hq.below aU hq.lt;have J:=aU;obtain⟨AP,nP,cP,rfl,bU,b9⟩:=h1.P.form;have dl:=qH 194 cb (λx=>decide (x.id=id)) base (λb=>S b\/vL.ownBlock=some b) AP nP cP p w0 y9 bU.out (by have:=bU.out;omega) h1.P (λx _ A c w' a7 _=>q3 x A c id cb w' (hI.below a7));have HH:=dx h1 hS az hp;have q2:=hq.cell 2;have aE:=hq.lt;simp at q2;obtain⟨AL,nL,cL,rfl,bs,ba⟩:=h1.L.form;clear h hq h1 hS az hp hI;go_enter Tryz.func140,Tryz.ntmps140;go_wp2_with fail;rw[<-ar,<-aF.out];clear ar;refine dl.mono ?_;clear dl;rintro e w1 ⟨n',rfl,O1,g1⟩;have bS:ai w1 q 49 _:=bu.grown g1 (λe=>HH.out.1.sP q e.symm HH.out.2.1);have x2:=bS.cell 2;have xf:=bS.free 2;simp at x2;go_wp2
 go_end0
 have I:=bS.put 2 (Y AP n' cP);simp only[List.setIfInBounds_toArray,List.set_cons_zero,List.set_cons_succ]at I;have bP:=(HH.out.1.flip.lB O1 g1 (hS:=w0.heap.size) (.inl (by cases AP<;>rfl)) (Nat.le_refl _) (λb a7=>Nat.lt_of_lt_of_le (HH.out.2.2.1 b a7) aU.size)).flip;refine⟨⟨_,rfl⟩,Y AP n' cP,by cases AP<;>rfl,I,bP.put HH.out.2.1 2 _,?_⟩;have t1:aw (λb=>b=q\/(Value.slice AP nP cP).ownBlock=some b) w w0:=aw.ao aU _;exact(t1.trans (aw.bN g1 (F:=λb=>b=q\/(Value.slice AP nP cP).ownBlock=some b) (λb a7=>.inr a7)) (λ_ _ h=>h)).trans (aw.bN (aR w1 q 2 (Y AP n' cP)) (F:=λb=>b=q\/(Value.slice AP nP cP).ownBlock=some b) (λb a7=>by injection a7 with a7;exact .inl a7.symm)) (λ_ _ h=>h)
end
section
open Go.RowKit Go.Maps
theorem mw:Keyed Tryz.prog 3:=int_keyed Tryz.underlying3
structure dh (w:World) (B:Nat) (f:Int->Option Value):Prop where
 ex:∃ (es:Array MapEntry) (clock:Nat),w.heap[B]? =some (.map es clock)/\(∀e∈es.toList,∃a,e.key=.int .i64 a/\(Lit.int .i64 a).wf=true)/\(es.toList.map (·.key)).Nodup/\∀a v,f a=some v↔∃e∈es.toList,e.key=.int .i64 a/\e.val=v
theorem ei{a:Int}(h: -9223372036854775808<=a/\a<=9223372036854775807):(Lit.int .i64 a).wf=true:=by
 have e1:IntKind.i64.min= -9223372036854775808:=rfl;have a5:IntKind.i64.max=9223372036854775807:=rfl;simp[Lit.wf,e1,a5];omega
section
variable {w w':World}{B T E:Nat}{f:Int->Option Value}
theorem dh.aI(h:dh w B f)(a7:w'.heap[B]? =w.heap[B]?):dh w' B f:=by
 obtain⟨es,c,h1,h2⟩:=h.ex;exact⟨es,c,a7.trans h1,h2⟩
theorem dh.lt(h:dh w B f):B<w.heap.size:=by
 obtain⟨es,c,h1,h2⟩:=h.ex;exact(Array.getElem?_eq_some_iff.1 h1).1
theorem dh.below(h:dh w B f)(a7:Below w w w'):dh w' B f:=h.aI (a7.block B h.lt)
theorem dh.made(w:World):dh (w.alloc (.map #[] 0)) w λ_=>none:=
 ⟨#[],0,heap_alloc_new w _,λe he=>by simp at he,by simp,λa v=>by simp⟩
theorem int_inj{a b:Int}(h:Value.int .i64 a=I af b):a=b:=by injection h
theorem dh.find(h:dh w B f)(W:World){a:Int}(ha:(Lit.int .i64 a).wf=true):∃es clock,w.heap[B]? =some (.map es clock)/\(∀e∈es.toList,∃a,e.key=.int .i64 a/\(Lit.int .i64 a).wf=true)/\(es.toList.map (·.key)).Nodup/\(∀a v,f a=some v↔∃e∈es.toList,e.key=.int .i64 a/\e.val=v)/\
 ((f a=none/\(Instr.findKey 3 (.int .i64 a) es.toList).run Tryz.prog W=.ok none W)\/∃j e,f a=some e.val/\(Instr.findKey 3 (.int .i64 a) es.toList).run Tryz.prog W=.ok (some (j,e.val)) W/\es.toList[j]? =some e/\e.key=.int .i64 a):=by
 obtain⟨es,c,h1,h2,a1,h4⟩:=h.ex;refine⟨es,c,h1,h2,a1,h4,?_⟩;have hl:=keyOf_int_mk (P:=Tryz.prog) Tryz.underlying3 ha;rcases mw.find W hl es.toList (λe he=>by
  obtain⟨b,a7,hw⟩:=h2 e he;exact⟨_,by rw[a7];exact keyOf_int_mk (P:=Tryz.prog) Tryz.underlying3 hw⟩)with⟨hr,aA⟩ | ⟨j,e,hr,hj,hk⟩
 ·refine .inl ⟨?_,hr⟩;cases hf:f a with
  | none=>rfl
  | some v=>
   obtain⟨e,he,hk,_⟩:=(h4 a v).1 hf;exact absurd hk (aA e he)
 ·exact .inr ⟨j,e,(h4 a e.val).2 ⟨e,List.mem_of_getElem? hj,hk,rfl⟩,hr,hj,hk⟩
theorem dG(hT:Tryz.prog.underlying T=some (.map 3 E))(h:dh w B f){a:Int}{v:Value}(ha:(Lit.int .i64 a).wf=true)(hf:f a=some v)(ok:Bool):
 (Instr.lookup T (.map (some B)) (.int .i64 a) ok).run Tryz.prog w=.ok (if ok then .tuple #[v,.bool true]else v) w:=by
 obtain⟨es,c,h1,h2,a1,h4,bi⟩:=h.find w ha;rcases bi with⟨e,_⟩ | ⟨j,e,h6,hr,_⟩
 ·rw[e]at hf;cases hf
 ·rw[hf]at h6;injection h6 with h6;subst h6;unfold Instr.lookup;simp[run_underlying hT,Go.MapKept.run_getObj_map h1,mw.check w es.isEmpty (keyOf_int_mk (P:=Tryz.prog) Tryz.underlying3 ha),hr]
theorem jS(hT:Tryz.prog.underlying T=some (.map 3 E)){z:Value}(hz:∀w,(zeroValue E).run Tryz.prog w=.ok z w)(h:dh w B f){a:Int}(ha:(Lit.int .i64 a).wf=true)(hf:f a=none)(ok:Bool):
 (Instr.lookup T (.map (some B)) (.int .i64 a) ok).run Tryz.prog w=.ok (if ok then .tuple #[z,.bool false]else z) w:=by
 obtain⟨es,c,h1,h2,a1,h4,bi⟩:=h.find w ha;rcases bi with⟨_,hr⟩ | ⟨j,e,h6,_⟩
 ·unfold Instr.lookup;simp[run_underlying hT,Go.MapKept.run_getObj_map h1,mw.check w es.isEmpty (keyOf_int_mk (P:=Tryz.prog) Tryz.underlying3 ha),hr,hz]
 ·rw[hf]at h6;cases h6
theorem lp{es:List MapEntry}(h:(es.map (·.key)).Nodup){i j:Nat}{a b:MapEntry}(hi:es[i]? =some a)(hj:es[j]? =some b)(hk:a.key=b.key):i=j:=by
 have bu:=(List.getElem?_eq_some_iff.1 hi).1;have e1:(es.map (·.key))[i]? =some a.key:=by rw[List.getElem?_map,hi];rfl
 have a5:(es.map (·.key))[j]? =some b.key:=by rw[List.getElem?_map,hj];rfl
 rw[<-hk,<-e1]at a5;exact(List.getElem?_inj (by simpa using bu) h).1 a5.symm
theorem bo(hT:Tryz.prog.underlying T=some (.map 3 E))(h:dh w B f){a:Int}(v:Value)(ha:(Lit.int .i64 a).wf=true):
 ∃w',(Instr.mapUpdate T (.map (some B)) (.int .i64 a) v).run Tryz.prog w=.ok () w'/\dh w' B (λb=>if b=a then some v else f b)/\w.grownBy w' (some B)/\w'.heap.size=w.heap.size:=by
 obtain⟨es,c,h1,h2,a1,h4,bi⟩:=h.find w ha;have bA:B<w.heap.size:=h.lt;have bF:=keyOf_int_mk (P:=Tryz.prog) Tryz.underlying3 ha;have grow:∀o,w.grownBy {w with heap:=w.heap.setIfInBounds B o} (some B):=λo=>⟨rfl,rfl,rfl,by simp,λk hk ay=>by
  have Y:B≠k:=λe=>ay (by rw[e]);simp[Array.getElem?_setIfInBounds_ne Y]⟩
 rcases bi with⟨aA,hr⟩ | ⟨j,e,h6,hr,hj,hk⟩
 ·refine⟨{w with heap:=w.heap.setIfInBounds B (.map (es.push {key:=.int .i64 a,val:=v,born:=c}) (c+1))},?_,⟨es.push {key:=.int .i64 a,val:=v,born:=c},c+1,by simp[bA],?_,?_,?_⟩,grow _,by simp⟩
  ·unfold Instr.mapUpdate;simp[run_underlying hT,Go.MapKept.run_getObj_map h1,mw.check w false bF,hr,Go.MapKept.run_setObj_map _ h1]
  ·intro e he;simp only[Array.toList_push,List.mem_append,List.mem_singleton]at he;rcases he with he | rfl
   ·exact h2 e he
   ·exact⟨a,rfl,ha⟩
  ·simp only[Array.toList_push,List.map_append,List.map_cons,List.map_nil];rw[List.nodup_append];refine⟨a1,by simp,λx hx y hy=>?_⟩;rw[List.mem_singleton]at hy;subst hy;obtain⟨e,he,rfl⟩:=List.mem_map.1 hx;intro hk;have:=(h4 a e.val).2 ⟨e,he,hk,rfl⟩;rw[aA]at this;cases this
  ·intro b u;simp only[Array.toList_push,List.mem_append,List.mem_singleton];by_cases a7:b=a
   ·subst a7;rw[if_pos rfl];constructor
    ·intro hv;injection hv with hv;exact⟨_,.inr rfl,rfl,hv⟩
    ·rintro⟨e,he | rfl,hk,hv⟩
     ·have:=(h4 b e.val).2 ⟨e,he,hk,rfl⟩;rw[aA]at this;cases this
     ·rw[<-hv]
   ·rw[if_neg a7,h4 b u];constructor
    ·rintro⟨e,he,hk,hv⟩;exact⟨e,.inl he,hk,hv⟩
    ·rintro⟨e,he | rfl,hk,hv⟩
     ·exact⟨e,he,hk,hv⟩
     ·exact absurd (int_inj hk).symm a7
 ·have ae:=(List.getElem?_eq_some_iff.1 hj).1;have ad:((es[j]?).map (·.key)).getD (.int .i64 a)=.int .i64 a:=by
   rw[<-Array.getElem?_toList,hj];exact hk
  refine⟨{w with heap:=w.heap.setIfInBounds B (.map (es.modify j λe=>{e with key:=.int .i64 a,val:=v}) c)},?_,⟨es.modify j λe=>{e with key:=.int .i64 a,val:=v},c,by simp[bA],?_,?_,?_⟩,grow _,by simp⟩
  ·unfold Instr.mapUpdate;simp[run_underlying hT,Go.MapKept.run_getObj_map h1,mw.check w false bF,hr,ad,mw.stays w bF,Go.MapKept.run_setObj_map _ h1]
  ·intro x hx;simp only[Array.toList_modify]at hx;obtain⟨i,hi,rfl⟩:=List.getElem_of_mem hx;rw[List.getElem_modify];split
   ·exact⟨a,rfl,ha⟩
   ·exact h2 _ (List.getElem_mem (by simpa using hi))
  ·have:(es.modify j λe=>{e with key:=.int .i64 a,val:=v}).toList.map (·.key)=es.toList.map (·.key):=by
    apply List.ext_getElem?;intro i;simp only[Array.toList_modify,List.getElem?_map,List.getElem?_modify];by_cases M:j=i
    ·subst M;rw[hj];simp[hk]
    ·simp[M]
   rw[this];exact a1
  ·intro b u;simp only[Array.toList_modify];constructor
   ·intro hv;by_cases a7:b=a
    ·subst a7;rw[if_pos rfl]at hv;injection hv with hv;refine⟨{e with key:=.int .i64 b,val:=v},?_,rfl,hv⟩;apply List.mem_of_getElem? (i:=j);rw[List.getElem?_modify,hj];simp
    ·rw[if_neg a7]at hv;obtain⟨x,hx,I,J⟩:=(h4 b u).1 hv;obtain⟨i,hi,rfl⟩:=List.getElem_of_mem hx;refine⟨es.toList[i],?_,I,J⟩;apply List.mem_of_getElem? (i:=i);rw[List.getElem?_modify,List.getElem?_eq_getElem hi];have M:¬j=i:=λa5=>by
      subst a5;rw[List.getElem?_eq_getElem hi]at hj;injection hj with hj;rw[hj,hk]at I;exact a7 (int_inj I).symm
     simp[M]
   ·rintro⟨x,hx,I,J⟩;obtain⟨i,hi,rfl⟩:=List.getElem_of_mem hx;rw[List.getElem_modify]at I J;split at I
    ·rename_i M;rw[if_pos M]at J;have a7:=int_inj I;simp only at J;rw[if_pos a7.symm,J]
    ·rename_i M;rw[if_neg M]at J;have aa:i<es.toList.length:=(by simpa using hi);have a7:¬b=a:=λa5=>by
      subst a5;exact M (lp a1 hj (List.getElem?_eq_getElem aa) (hk.trans I.symm))
     rw[if_neg a7,h4 b u];exact⟨_,List.getElem_mem aa,I,J⟩
theorem y3(hT:Tryz.prog.underlying T=some (.map 3 E))(ty:TypeId)(t3:TypeId)(h:dh w B f){a:Int}(ha:(Lit.int .i64 a).wf=true):
 ∃w',(Builtin.delete_ #[T,t3] ty #[.map (some B),.int .i64 a]).run Tryz.prog w=.ok (.tuple #[]) w'/\dh w' B (λb=>if b=a then none else f b)/\w.grownBy w' (some B)/\w'.heap.size=w.heap.size:=by
 obtain⟨es,c,h1,h2,a1,h4,bi⟩:=h.find w ha;have bA:B<w.heap.size:=h.lt;have bF:=keyOf_int_mk (P:=Tryz.prog) Tryz.underlying3 ha;have grow:∀o,w.grownBy {w with heap:=w.heap.setIfInBounds B o} (some B):=λo=>⟨rfl,rfl,rfl,by simp,λk hk ay=>by
  have Y:B≠k:=λe=>ay (by rw[e]);simp[Array.getElem?_setIfInBounds_ne Y]⟩
 rcases bi with⟨aA,hr⟩ | ⟨j,e,h6,hr,hj,hk⟩
 ·refine⟨{w with heap:=w.heap.setIfInBounds B (.map es c)},?_,⟨es,c,by simp[bA],h2,a1,λb u=>?_⟩,grow _,by simp⟩
  ·unfold Builtin.delete_;simp[run_underlying hT,Go.MapKept.run_getObj_map h1,mw.check w es.isEmpty bF,hr,Go.MapKept.run_setObj_map _ h1]
  ·by_cases a7:b=a
   ·subst a7;rw[if_pos rfl,<-h4,aA]
   ·rw[if_neg a7,h4]
 ·have ae:=(List.getElem?_eq_some_iff.1 hj).1;have bT:(es.eraseIdxIfInBounds j).toList=es.toList.eraseIdx j:=by
   unfold Array.eraseIdxIfInBounds;rw[dif_pos (by simpa using ae)];simp
  refine⟨{w with heap:=w.heap.setIfInBounds B (.map (es.eraseIdxIfInBounds j) c)},?_,⟨es.eraseIdxIfInBounds j,c,by simp[bA],?_,?_,?_⟩,grow _,by simp⟩
  ·unfold Builtin.delete_;simp[run_underlying hT,Go.MapKept.run_getObj_map h1,mw.check w es.isEmpty bF,hr,Go.MapKept.run_setObj_map _ h1]
  ·intro x hx;rw[bT]at hx;exact h2 x (List.mem_of_mem_eraseIdx hx)
  ·rw[bT];exact a1.sublist ((List.eraseIdx_sublist _ _).map _)
  ·intro b u;rw[bT];by_cases a7:b=a
   ·subst a7;rw[if_pos rfl];constructor
    ·intro hv;cases hv
    ·rintro⟨x,hx,I,J⟩;exfalso;obtain⟨i,hi,rfl⟩:=List.getElem_of_mem hx;have aT:=List.getElem?_eq_getElem hi;rw[List.getElem?_eraseIdx]at aT;split at aT
     ·rename_i dc;have:=lp a1 hj aT (hk.trans I.symm);omega
     ·rename_i dc;have:=lp a1 hj aT (hk.trans I.symm);omega
   ·rw[if_neg a7,h4 b u];constructor
    ·rintro⟨x,hx,I,J⟩;refine⟨x,?_,I,J⟩;obtain⟨i,hi,rfl⟩:=List.getElem_of_mem hx;have M:¬i=j:=λa5=>by
      subst a5;rw[List.getElem?_eq_getElem hi]at hj;injection hj with hj;rw[hj,hk]at I;exact a7 (int_inj I).symm
     rw[List.mem_eraseIdx_iff_getElem];exact⟨i,hi,M,rfl⟩
    ·rintro⟨x,hx,I,J⟩;exact⟨x,List.mem_of_mem_eraseIdx hx,I,J⟩
end
end
theorem ai.apart{w:World}{a b:Nat}{t I:TypeId}{cs j5:Array Value}(h:ai w a t cs)(J:ai w b I j5)(ay:t≠I):a≠b:=λe=>by
 subst e;unfold ai at h J;rw[h]at J;injection J with J;injection J with _ J;exact ay J
theorem ai.drew{w:World}{a:Nat}{t:TypeId}{cs:Array Value}(h:ai w a t cs):ai w.drew a t cs:=h
def kX(q:Nat)(vL vP:Value):Nat->Prop:=λb=>b=q\/vL.ownBlock=some b\/vP.ownBlock=some b
theorem oJ(rb pb q:Nat)(n aq:Nat)(vL vP:Value)(w:World)(hr:ai w rb 161 (ez n))(hp:ai w pb 165 #[aj q])(hq:ai w q 49 (bp aq vL vP))(bA:aq<n):
 Calls Tryz.prog 137 #[aj rb,aj pb] w λe w'=>e=.returned (.bool true)/\ai w' q 49 (bp n vL vP)/\aw (λb=>b=q) w w':=by
 have r1:=hr.cell 1;have p0:=hp.cell 0;have q0:=hq.cell 0;have I:=hq.free 0;simp at r1 p0 q0;have g:decide ((n:Int)<=(aq:Int))=false:=by rw[decide_eq_false_iff_not];omega
 have g2:decide (n<=aq)=false:=by rw[decide_eq_false_iff_not];omega
 have HQ:=Lib.hid hq;have ay:q≠rb:=hq.apart hr (by decide);have ad:q≠pb:=hq.apart hp (by decide);clear hr hp hq;go_enter Tryz.func137,Tryz.ntmps137;go_wp2_with fail
 go_quiet (fail)
 go_wp2;go_ret;have hz:=HQ.out.put 0 (av n);simp only[List.setIfInBounds_toArray,List.set_cons_zero]at hz;refine⟨rfl,?_,?_⟩
 ·first | exact hz | exact ai.drew hz
 ·have gs:=aR w q 0 (av n);exact⟨gs.os,gs.tape,gs.output,gs.size,λb a7 aL=>gs.block b a7 (λe=>aL (by injection e with e))⟩
theorem v5{P:Prop}(h:P:=by
 go_simp;refine ad.out _ _ (k4 _ bi a0) (λJ=>?_);clear ad K;refine aP 9 (λK ad=>?_);clear J;refine dW _ rfl (.tmp 34) (.tmp 38) 46 rfl aB base 132 i0 z0 96 Tryz.underlying46 bM bL bJ bR bB (by decide) (λb=>S b\/(Value.slice AP nP cP).ownBlock=some b) (Y AL n cL) l (by rfl) bc.L (aj w3) 1 (a3 x A4 c4) x (by rfl) (Src.made w3 _ _) bI (by unfold maxLen;omega) (by omega) (by simp;have:=b3.size;omega) ?_;intro A6 bX w6 O6 cz gr aZ;have bh:∀k,(Value.slice AL n cL).ownBlock=some k->¬S k:=HH.out.1.sL;have bx:=bi.grown gr (λe=>bh rb e.symm HH.out.2.2.1.2.1);have br:=a0.grown gr (λe=>bh pb e.symm HH.out.2.2.1.2.2);have a5:=a2.grown gr (λe=>bh q e.symm HH.out.2.2.1.1);have bD:=bq.grown gr (λe=>by have h1:=(HH.out.1.L.lt e.symm).2;have:=a4.out;omega);have x1:=a5.cell 1;have bA:=a5.free 1;simp at x1;refine ad.out _ _ (k4 _ bx br) (λJ=>?_);clear ad K;refine tk 10 J ?_;refine tk 11 J ?_;refine aP 12 (λK ad=>?_);clear J;go_simp;refine ad.out _ _ (k4 _ (bx.dA (λe=>bv e.symm) _) (br.dA (λe=>bu e.symm) _)) (λJ=>?_);clear ad K;refine cB ?_ _;obtain⟨w7,bf⟩:=am (w6.setCell ⟨q,1,none⟩ (Y A6 (l.length+1) bX));have bH:ai w7 pb 165 #[aj q]:=by rw[bf];exact br.dA (λe=>bu e.symm) _
 have bK:ai w7 ib 32 (bY x.id):=by rw[bf];exact bD.dA (λe=>by have h1:ib=q:=e;have h2:=HH.out.2.2.2.1 q HH.out.2.2.1.1;have:=a4.out;omega) _
 have bz:ai w7 q 49 (bT aq A6 (l.length+1) bX AP nP cP):=by rw[bf];simpa using a5.put 1 (Y A6 (l.length+1) bX)
 have bt:cu w7 base S (Y A6 (l.length+1) bX) (Y AP nP cP) (l++[x]) p:=by rw[bf];exact(bc.lB O6 gr aZ (Nat.le_refl _) (λb a7=>by simp;have:=HH.out.2.2.2.1 b a7;have:=bo.size;have:=b3.size;omega)).put HH.out.2.2.1.1 1 _
 have t7:aw (kX q (Y AL n cL) (Y AP nP cP)) w w7:=by
  have t1:aw (kX q (Y AL n cL) (Y AP nP cP)) w (w3.alloc (.cells (a3 x A4 c4) 132)):=aw.ao (bo.trans ((b3.mono bo.size).trans (bC.mono (Nat.le_trans bo.size b3.size)))) _;rw[bf];exact(t1.trans (aw.bN gr (F:=kX q (Y AL n cL) (Y AP nP cP)) (λb a7=>.inr (.inl a7))) (λ_ _ h=>h)).trans (aw.bN (aR w6 q 1 _) (F:=kX q (Y AL n cL) (Y AP nP cP)) (λb a7=>by injection a7 with a7;exact .inl a7.symm)) (λ_ _ h=>h)
 have bF:∀b,S b->b<w7.heap.size:=λb a7=>Nat.lt_of_lt_of_le (HH.out.2.2.2.1 b a7) t7.size;have bk:∀b,(Value.slice A6 (l.length+1) bX).ownBlock=some b->(Value.slice AL n cL).ownBlock=some b\/w.heap.size<=b:=λb a7=>by
  rcases aZ with e | e
  ·exact .inl (e.symm.trans a7)
  ·rw[e]at a7;injection a7 with a7;have:=bo.size;have:=b3.size;simp at a7;exact .inr (by omega)
 rw[<-bf];clear bf;have fg:=sa q base S aq _ _ (l++[x]) p x.id w7 bz bt HH.out.2.2.1.1 bF HH.out.2.2.2.2.2.2;unfold PId.val at fg;have m0:=bH.cell 0;obtain⟨m1,m2,m3⟩:=bK.c3;simp at m0 m1 m2 m3;go_wp2_with fail;refine fg.mono ?_;clear fg;rintro e w8 ⟨⟨v8,rfl⟩,aD,aW,aK,aO,t8⟩;go_wp2;go_ret;refine⟨rfl,_,aD,aK,aO,t7.trans t8 (λb a7 e=>e.elim (λe=>.inl e) (λe=>.inr (.inr e))),bk,λb a7=>.inl (aW.symm.trans a7)⟩
 ):P:=h
theorem oe(rb pb q base:Nat)(S S9:Nat->Prop)(aq:Int)(vL vP:Value)(l p:List ae)(n:Nat)(x:ae)(A:Option Addr)(c:Nat)(w:World)
 (hr:ai w rb 161 (eq n x A c)) (hp:ai w pb 165 #[aj q]) (hq:ai w q 49 (bp aq vL vP)) (h:cu w base S vL vP l p) (hS:S q/\S rb/\S pb) (az:∀b,S b->b<w.heap.size) (av:base<=w.heap.size)
 (aL:n=l.length) (aA:bd l x.id=false) (hg:x.aH) (hx:SliceAt aN w S9 A x.events) (a9:l.length<=1000) (aX:p.length<=1):
 Calls Tryz.prog 138 #[aj rb,aj pb] w λe w'=>e=.returned (.bool true)/\∃aE aD,ai w' q 49 (bp aq aE aD)/\cu w' base S aE aD (l++[x]) (p.filter λy=> !decide (y.id=x.id))/\aw (kX q vL vP) w w'/\
  (∀b,aE.ownBlock=some b->vL.ownBlock=some b\/w.heap.size<=b)/\∀b,aD.ownBlock=some b->vP.ownBlock=some b\/w.heap.size<=b:=by
 obtain⟨i0,z0,bM,bL,bB,bJ,bR⟩:=aS Tryz.dJ;obtain⟨w0,ar⟩:=am (w.alloc (.cells (bY x.id) 32));have bl:ai w0 w 32 (bY x.id):=by rw[ar];exact ai.made _ _ _
 have aU:=aV ar;obtain⟨ib,aQ⟩:=am w.heap.size;rw[<-aQ]at bl;have a4:=Lib.hid aQ;have bQ:=hr.lt;have bG:=hr.cell 3;have bw:=hr.cell 4;have bO:=hr.cell 5;simp at bG bw bO;have bv:q≠rb:=hq.apart hr (by decide);have bu:q≠pb:=hq.apart hp (by decide);obtain⟨AL,nL,cL,rfl,bs,ba⟩:=h.L.form;obtain⟨AP,nP,cP,rfl,bU,b9⟩:=h.P.form;have bj:=hr.below aU hr.lt;have bn:=hp.below aU hp.lt;have aI:=hq.below aU hq.lt;have h0:=h.below aU;have bb:=hx.below aU;have bE:nL<=1000:=by have:=bs.out;omega
 have bS:nP<=1:=by have:=bU.out;omega
 have has:=g7 (λ_=>False) aq AL nL cL l (Y AP nP cP) aa x.id w0.drew bs.out (by omega) ((h0.L.slice (S':=λ_=>False) (λ_ h=>h.elim) (λ_ h=>h.elim)).fX) ⟨_,_,_,rfl⟩ ⟨_,_,_,rfl⟩;rw[aA]at has;unfold PId.val at has;have HH:=kz h h0 hS az bb hg aX;have HX:=dx bj bn aI bl;obtain rfl:n=nL:=by have:=bs.out;omega
 have bP:IntKind.u64.wrap (n:Int)=(n:Int):=IntWalk.u64_in _ (by omega);have a6:=Lib.hid aA;clear hr hp hq h hS az aQ hx hg aA aL;go_enter Tryz.func138,Tryz.ntmps138;go_wp2_with fail;rw[<-ar,<-a4.out];clear ar;have k2:∀W:World,ai W rb 161 (eq n x A c)->ai W pb 165 #[aj q]->ai W q 49 (bT aq AL n cL AP nP cP)->ai W ib 32 (bY x.id)->W.cell? ⟨rb,1,none⟩=some (I ak n)/\W.cell? (aj pb)=some (.pointer (aj q))/\W.cell? (aj q)=some (I ak aq)/\W.cell? ⟨q,1,none⟩=some (Y AL n cL)/\W.cell? ⟨q,2,none⟩=some (Y AP nP cP)/\W.cell? ⟨q,3,none⟩=some (aa)/\W.cell? (aj ib)=some (I af x.id.au)/\W.cell? ⟨ib,1,none⟩=some (I ak x.id.aq)/\W.cell? ⟨ib,2,none⟩=some (I ak x.id.ax):=λW h1 h2 a1 h4=>⟨h1.cell 1,h2.cell 0,a1.cell 0,a1.cell 1,a1.cell 2,a1.cell 3,h4.cell 0,h4.cell 1,h4.cell 2⟩;refine wp_region_held_drew (S:=(λw'=>w'.cell? ⟨rb,1,none⟩=some (I ak n)/\w'.cell? (aj pb)=some (.pointer (aj q))/\w'.cell? (aj q)=some (I ak aq)/\w'.cell? ⟨q,1,none⟩=some (Y AL n cL)/\w'.cell? ⟨q,2,none⟩=some (Y AP nP cP)/\w'.cell? ⟨q,3,none⟩=some (aa)/\w'.cell? (aj ib)=some (I af x.id.au)/\w'.cell? ⟨ib,1,none⟩=some (I ak x.id.aq)/\w'.cell? ⟨ib,2,none⟩=some (I ak x.id.ax))) (by kernel_rfl) (k2 _ HX.out.1 HX.out.2.1 HX.out.2.2.1 HX.out.2.2.2) (λJ=>?_);refine tk 0 J ?_;refine tk 1 J ?_;refine tk 2 J ?_;refine tk 3 J ?_;refine tk 4 J ?_;refine tk 5 J ?_;refine tk 6 J ?_;refine tk 7 J ?_;refine tk 8 J ?_;refine tk 9 J ?_;refine tk 10 J ?_;refine tk 11 J ?_;refine tk 12 J ?_;refine tk 13 J ?_;refine aP 14 (λK ad=>?_);clear J;go_simp;refine has.mono ?_;clear has;rintro e w1 ⟨rfl,b1⟩;have b1:=a8 b1;have ay:=dx (HX.out.1.below b1 HX.out.1.lt) (HX.out.2.1.below b1 HX.out.2.1.lt) (HX.out.2.2.1.below b1 HX.out.2.2.1.lt) (HX.out.2.2.2.below b1 HX.out.2.2.2.lt)
 try dsimp only
 refine ad.out _ _ (k2 _ ay.out.1 ay.out.2.1 ay.out.2.2.1 ay.out.2.2.2) (λJ=>?_);clear ad K;refine tk 15 J ?_;refine tk 16 J ?_;refine tk 17 J ?_;refine tk 18 J ?_;refine tk 19 J ?_;refine tk 20 J ?_;have bg:=fI aq (Y AL n cL) (Y AP nP cP) x.id w1 ⟨_,_,_,rfl⟩ ⟨_,_,_,rfl⟩;unfold PId.val at bg;refine aP 21 (λK ad=>?_);clear J;go_simp;refine bg.mono ?_;clear bg;rintro e w2 ⟨rfl,b2⟩;have M:=dx (ay.out.1.below b2 ay.out.1.lt) (ay.out.2.1.below b2 ay.out.2.1.lt) (ay.out.2.2.1.below b2 ay.out.2.2.1.lt) (ay.out.2.2.2.below b2 ay.out.2.2.2.lt)
 try dsimp only
 refine ad.out _ _ (k2 _ M.out.1 M.out.2.1 M.out.2.2.1 M.out.2.2.2) (λJ=>?_);clear ad K;refine tk 22 J ?_;refine cB ?_ _;clear k2 J;go_wp2_with fail;have bo:Below w w w2:=aU.trans ((b1.mono aU.size).trans (b2.mono (Nat.le_trans aU.size b1.size)));have aY:=HH.out.1.below (bo.mono (Nat.le_refl _));have aT:=HH.out.2.2.2.2.1.below (b1.trans (b2.mono b1.size));have wh:=hL S9 x A c w2.drew aT.fX HH.out.2.2.2.2.2.1.lays.1 HH.out.2.2.2.2.2.1.lays.2;unfold ae.cellsOf at wh;have aG:base<=w2.heap.size:=Nat.le_trans av bo.size;have k4:∀W:World,ai W rb 161 (eq n x A c)->ai W pb 165 #[aj q]->W.cell? ⟨rb,2,none⟩=some (I af x.kind)/\W.cell? ⟨rb,3,none⟩=some (I af x.id.au)/\W.cell? ⟨rb,4,none⟩=some (I ak x.id.aq)/\W.cell? ⟨rb,5,none⟩=some (I ak x.id.ax)/\W.cell? ⟨rb,6,none⟩=some (I af x.ah)/\W.cell? ⟨rb,7,none⟩=some (I ak x.sub)/\W.cell? ⟨rb,8,none⟩=some (aa)/\W.cell? ⟨rb,9,none⟩=some (Y A x.events.length c)/\W.cell? (aj pb)=some (.pointer (aj q)):=λW h1 h2=>⟨h1.cell 2,h1.cell 3,h1.cell 4,h1.cell 5,h1.cell 6,h1.cell 7,h1.cell 8,h1.cell 9,h2.cell 0⟩;have y1:=M.out.2.2.1.cell 1;simp at y1;refine wp_region_held_drew (S:=λw'=>w'.cell? ⟨rb,2,none⟩=some (I af x.kind)/\w'.cell? ⟨rb,3,none⟩=some (I af x.id.au)/\w'.cell? ⟨rb,4,none⟩=some (I ak x.id.aq)/\w'.cell? ⟨rb,5,none⟩=some (I ak x.id.ax)/\w'.cell? ⟨rb,6,none⟩=some (I af x.ah)/\w'.cell? ⟨rb,7,none⟩=some (I ak x.sub)/\w'.cell? ⟨rb,8,none⟩=some (aa)/\w'.cell? ⟨rb,9,none⟩=some (Y A x.events.length c)/\w'.cell? (aj pb)=some (.pointer (aj q))) (by kernel_rfl) (k4 _ M.out.1 M.out.2.1) (λJ=>?_);refine tk 0 J ?_;refine tk 1 J ?_;refine tk 2 J ?_;refine tk 3 J ?_;refine tk 5 J ?_;refine tk 6 J ?_;refine wpAnyH_ready (rs:=[4,7]) (by kernel_rfl) (by simp) (AllReadyH.cons (by simp only[List.getElem?_toArray,List.getElem?_cons_succ,List.getElem?_cons_zero];rfl) (λK ad=>?_) (AllReadyH.cons (by simp only[List.getElem?_toArray,List.getElem?_cons_succ,List.getElem?_cons_zero];rfl) (λK ad=>?_) AllReadyH.nil))
 ·clear J;go_simp;refine ad.out _ _ (k4 _ M.out.1 M.out.2.1) (λJ=>?_);clear ad K;refine aP 7 (λK ad=>?_);clear J;go_simp;refine wh.mono ?_;clear wh;rintro e w3 ⟨A4,c4,rfl,h4,b3⟩;have b3:=a8 b3;have aJ:=M.out.1.below b3 M.out.1.lt;have aM:=M.out.2.1.below b3 M.out.2.1.lt;have ag:=M.out.2.2.1.below b3 M.out.2.2.1.lt;have aC:=M.out.2.2.2.below b3 M.out.2.2.2.lt;have bC:=(Below.refl w3 w3).alloc (Nat.le_refl _) (.cells (a3 x A4 c4) 132);have bi:=aJ.below bC aJ.lt;have a0:=aM.below bC aM.lt;have a2:=ag.below bC ag.lt;have bq:=aC.below bC aC.lt;have bc:=(aY.below b3).below bC;have bI:aB.R (w3.alloc (.cells (a3 x A4 c4) 132)) (bm (λb=>S b\/(Value.slice AP nP cP).ownBlock=some b) (Y AL n cL)) (a3 x A4 c4) x:=
   ⟨A4,c4,rfl,(h4.below bC).weak (λb a7=>by
    show b<w2.heap.size;rcases a7 with(a7 | a7) | a7
    ·have:=HH.out.2.2.2.1 b a7;have:=bo.size;omega
    ·exact(aY.P.lt a7).2
    ·exact(aY.L.lt a7).2)⟩
  have z1:=ag.cell 1;simp at z1;have aF:=a2.cell 1;simp at aF
  try dsimp only
  refine ad.out _ _ (k4 _ aJ aM) (λJ=>?_);clear ad K;refine aP 8 (λK ad=>?_);clear J;exact v5
 ·clear J;go_simp;refine wh.mono ?_;clear wh;rintro e w3 ⟨A4,c4,rfl,h4,b3⟩;have b3:=a8 b3;have aJ:=M.out.1.below b3 M.out.1.lt;have aM:=M.out.2.1.below b3 M.out.2.1.lt;have ag:=M.out.2.2.1.below b3 M.out.2.2.1.lt;have aC:=M.out.2.2.2.below b3 M.out.2.2.2.lt;have bC:=(Below.refl w3 w3).alloc (Nat.le_refl _) (.cells (a3 x A4 c4) 132);have bi:=aJ.below bC aJ.lt;have a0:=aM.below bC aM.lt;have a2:=ag.below bC ag.lt;have bq:=aC.below bC aC.lt;have bc:=(aY.below b3).below bC;have bI:aB.R (w3.alloc (.cells (a3 x A4 c4) 132)) (bm (λb=>S b\/(Value.slice AP nP cP).ownBlock=some b) (Y AL n cL)) (a3 x A4 c4) x:=
   ⟨A4,c4,rfl,(h4.below bC).weak (λb a7=>by
    show b<w2.heap.size;rcases a7 with(a7 | a7) | a7
    ·have:=HH.out.2.2.2.1 b a7;have:=bo.size;omega
    ·exact(aY.P.lt a7).2
    ·exact(aY.L.lt a7).2)⟩
  have z1:=ag.cell 1;simp at z1;have aF:=a2.cell 1;simp at aF
  try dsimp only
  refine ad.out _ _ (k4 _ aJ aM) (λJ=>?_);clear ad K;refine wpAnyH_ready (rs:=[4,8]) (by kernel_rfl) (by simp) (AllReadyH.cons (by simp only[List.getElem?_toArray,List.getElem?_cons_succ,List.getElem?_cons_zero];rfl) (λK ad=>?_) (AllReadyH.cons (by simp only[List.getElem?_toArray,List.getElem?_cons_succ,List.getElem?_cons_zero];rfl) (λK ad=>?_) AllReadyH.nil))
  focus
   clear J;go_simp;refine ad.out _ _ (k4 _ aJ aM) (λJ=>?_);clear ad K;refine aP 8 (λK ad=>?_)
  rotate_left
  focus
   clear J;go_simp;refine ad.out _ _ (k4 _ bi a0) (λJ=>?_);clear ad K;refine aP 4 (λK ad=>?_)
  all_goals
   clear J;exact v5
theorem vX{P:Prop}(h:P:=by
 go_simp;refine ad.out _ _ (k4 _ bi a0) (λJ=>?_);clear ad K;refine aP 9 (λK ad=>?_);clear J;refine dW _ rfl (.tmp 30) (.tmp 34) 46 rfl aB base 132 i0 z0 96 Tryz.underlying46 bM bL bJ bR bB (by decide) (λb=>S b\/(Value.slice AL nL cL).ownBlock=some b) (Y AP nP cP) p (by rfl) bc.P (aj w3) 1 (a3 x A4 c4) x (by rfl) (Src.made w3 _ _) bI (by unfold maxLen;omega) (by omega) (by simp;have:=b3.size;omega) ?_;intro A6 bX w6 O6 cz gr aZ;have bh:∀k,(Value.slice AP nP cP).ownBlock=some k->¬S k:=HH.out.1.sP;have bx:=bi.grown gr (λe=>bh rb e.symm HH.out.2.2.1.2.1);have br:=a0.grown gr (λe=>bh pb e.symm HH.out.2.2.1.2.2);have a5:=a2.grown gr (λe=>bh q e.symm HH.out.2.2.1.1);have bD:=bq.grown gr (λe=>by have h1:=(HH.out.1.P.lt e.symm).2;have:=a4.out;omega);have x2:=a5.cell 2;have bV:=a5.free 2;simp at x2;refine ad.out _ _ (k4 _ bx br) (λJ=>?_);clear ad K;refine tk 10 J ?_;refine tk 11 J ?_;refine aP 12 (λK ad=>?_);clear J;go_simp;refine ad.out _ _ (k4 _ (bx.dA (λe=>bv e.symm) _) (br.dA (λe=>bu e.symm) _)) (λJ=>?_);clear ad K;refine cB ?_ _;obtain⟨w7,bf⟩:=am (w6.setCell ⟨q,2,none⟩ (Y A6 (p.length+1) bX));have bH:ai w7 pb 165 #[aj q]:=by rw[bf];exact br.dA (λe=>bu e.symm) _
 have bK:ai w7 ib 32 (bY x.id):=by rw[bf];exact bD.dA (λe=>by have h1:ib=q:=e;have h2:=HH.out.2.2.2.1 q HH.out.2.2.1.1;have:=a4.out;omega) _
 have bz:ai w7 q 49 (bT aq AL nL cL A6 (p.length+1) bX):=by rw[bf];simpa using a5.put 2 (Y A6 (p.length+1) bX)
 have bt:cu w7 base S (Y AL nL cL) (Y A6 (p.length+1) bX) l (p++[x]):=by rw[bf];exact(bc.flip.lB O6 gr aZ (Nat.le_refl _) (λb a7=>by simp;have:=HH.out.2.2.2.1 b a7;have:=bo.size;have:=b3.size;omega)).flip.put HH.out.2.2.1.1 2 _
 have t7:aw (kX q (Y AL nL cL) (Y AP nP cP)) w w7:=by
  have t1:aw (kX q (Y AL nL cL) (Y AP nP cP)) w (w3.alloc (.cells (a3 x A4 c4) 132)):=aw.ao (bo.trans ((b3.mono bo.size).trans (bC.mono (Nat.le_trans bo.size b3.size)))) _;rw[bf];exact(t1.trans (aw.bN gr (F:=kX q (Y AL nL cL) (Y AP nP cP)) (λb a7=>.inr (.inr a7))) (λ_ _ h=>h)).trans (aw.bN (aR w6 q 2 _) (F:=kX q (Y AL nL cL) (Y AP nP cP)) (λb a7=>by injection a7 with a7;exact .inl a7.symm)) (λ_ _ h=>h)
 have bF:∀b,S b->b<w7.heap.size:=λb a7=>Nat.lt_of_lt_of_le (HH.out.2.2.2.1 b a7) t7.size;have bk:∀b,(Value.slice A6 (p.length+1) bX).ownBlock=some b->(Value.slice AP nP cP).ownBlock=some b\/w.heap.size<=b:=λb a7=>by
  rcases aZ with e | e
  ·exact .inl (e.symm.trans a7)
  ·rw[e]at a7;injection a7 with a7;have:=bo.size;have:=b3.size;simp at a7;exact .inr (by omega)
 rw[<-bf];clear bf;go_wp2;go_ret;exact⟨rfl,_,_,bz,bt,t7,λb a7=>.inl a7,bk⟩
 ):P:=h
theorem lC(rb pb q base:Nat)(S S9:Nat->Prop)(aq:Int)(vL vP:Value)(l p:List ae)(x:ae)(A:Option Addr)(c:Nat)(w:World)
 (hr:ai w rb 161 (ey x A c)) (hp:ai w pb 165 #[aj q]) (hq:ai w q 49 (bp aq vL vP)) (h:cu w base S vL vP l p) (hS:S q/\S rb/\S pb) (az:∀b,S b->b<w.heap.size) (av:base<=w.heap.size)
 (aA:bd l x.id=false) (aL:bd p x.id=false) (hg:x.aH) (hx:SliceAt aN w S9 A x.events) (a9:l.length<=1000) (aX:p.length<=1):
 Calls Tryz.prog 141 #[aj rb,aj pb] w λe w'=>e=.returned (.bool true)/\∃aE aD,ai w' q 49 (bp aq aE aD)/\cu w' base S aE aD l (p++[x])/\aw (kX q vL vP) w w'/\
  (∀b,aE.ownBlock=some b->vL.ownBlock=some b\/w.heap.size<=b)/\∀b,aD.ownBlock=some b->vP.ownBlock=some b\/w.heap.size<=b:=by
 obtain⟨i0,z0,bM,bL,bB,bJ,bR⟩:=aS Tryz.dJ;obtain⟨w0,ar⟩:=am (w.alloc (.cells (bY x.id) 32));have bl:ai w0 w 32 (bY x.id):=by rw[ar];exact ai.made _ _ _
 have aU:=aV ar;obtain⟨ib,aQ⟩:=am w.heap.size;rw[<-aQ]at bl;have a4:=Lib.hid aQ;have bQ:=hr.lt;have bG:=hr.cell 3;have bw:=hr.cell 4;have bO:=hr.cell 5;simp at bG bw bO;have bv:q≠rb:=hq.apart hr (by decide);have bu:q≠pb:=hq.apart hp (by decide);obtain⟨AL,nL,cL,rfl,bs,ba⟩:=h.L.form;obtain⟨AP,nP,cP,rfl,bU,b9⟩:=h.P.form;have bj:=hr.below aU hr.lt;have bn:=hp.below aU hp.lt;have aI:=hq.below aU hq.lt;have h0:=h.below aU;have bb:=hx.below aU;have bE:nL<=1000:=by have:=bs.out;omega
 have bS:nP<=1:=by have:=bU.out;omega
 have has:=g7 (λ_=>False) aq AL nL cL l (Y AP nP cP) aa x.id w0.drew bs.out (by omega) ((h0.L.slice (S':=λ_=>False) (λ_ h=>h.elim) (λ_ h=>h.elim)).fX) ⟨_,_,_,rfl⟩ ⟨_,_,_,rfl⟩;rw[aA]at has;unfold PId.val at has;have HH:=kz h h0 hS az bb hg aX;have HX:=dx bj bn aI bl;have a6:=Lib.hid aA;have bP:=Lib.hid aL;clear hr hp hq h hS az aQ hx hg aA aL;go_enter Tryz.func141,Tryz.ntmps141;go_wp2_with fail;rw[<-ar,<-a4.out];clear ar;have aW:=λw1 h=>hU (λ_=>False) aq AP nP cP p (Y AL nL cL) aa x.id w1 bU.out (by omega) h ⟨_,_,_,rfl⟩ ⟨_,_,_,rfl⟩;unfold PId.val at aW;rw[bP.out]at aW;have k2:∀W:World,ai W pb 165 #[aj q]->ai W q 49 (bT aq AL nL cL AP nP cP)->ai W ib 32 (bY x.id)->W.cell? (aj pb)=some (.pointer (aj q))/\W.cell? (aj q)=some (I ak aq)/\W.cell? ⟨q,1,none⟩=some (Y AL nL cL)/\W.cell? ⟨q,2,none⟩=some (Y AP nP cP)/\W.cell? ⟨q,3,none⟩=some (aa)/\W.cell? (aj ib)=some (I af x.id.au)/\W.cell? ⟨ib,1,none⟩=some (I ak x.id.aq)/\W.cell? ⟨ib,2,none⟩=some (I ak x.id.ax):=λW h2 a1 h4=>⟨h2.cell 0,a1.cell 0,a1.cell 1,a1.cell 2,a1.cell 3,h4.cell 0,h4.cell 1,h4.cell 2⟩;refine wp_region_held_drew (S:=(λw'=>w'.cell? (aj pb)=some (.pointer (aj q))/\w'.cell? (aj q)=some (I ak aq)/\w'.cell? ⟨q,1,none⟩=some (Y AL nL cL)/\w'.cell? ⟨q,2,none⟩=some (Y AP nP cP)/\w'.cell? ⟨q,3,none⟩=some (aa)/\w'.cell? (aj ib)=some (I af x.id.au)/\w'.cell? ⟨ib,1,none⟩=some (I ak x.id.aq)/\w'.cell? ⟨ib,2,none⟩=some (I ak x.id.ax))) (by kernel_rfl) (k2 _ HX.out.2.1 HX.out.2.2.1 HX.out.2.2.2) (λJ=>?_);refine tk 0 J ?_;refine tk 1 J ?_;refine tk 2 J ?_;refine tk 3 J ?_;refine aP 4 (λK ad=>?_);clear J;go_simp;refine has.mono ?_;clear has;rintro e w1 ⟨rfl,b1⟩;have b1:=a8 b1;have ay:=dx (HX.out.1.below b1 HX.out.1.lt) (HX.out.2.1.below b1 HX.out.2.1.lt) (HX.out.2.2.1.below b1 HX.out.2.2.1.lt) (HX.out.2.2.2.below b1 HX.out.2.2.2.lt)
 try dsimp only
 refine ad.out _ _ (k2 _ ay.out.2.1 ay.out.2.2.1 ay.out.2.2.2) (λJ=>?_);clear ad K;refine tk 5 J ?_;refine tk 6 J ?_;refine tk 7 J ?_;refine tk 8 J ?_;refine tk 9 J ?_;have pm:=aW w1 ((HH.out.2.1.below b1).P.slice (S':=λ_=>False) (λ_ h=>h.elim) (λ_ h=>h.elim));refine aP 10 (λK ad=>?_);clear J;go_simp;refine pm.mono ?_;clear pm aW;rintro e aF ⟨rfl,aK⟩;have aO:=dx (ay.out.1.below aK ay.out.1.lt) (ay.out.2.1.below aK ay.out.2.1.lt) (ay.out.2.2.1.below aK ay.out.2.2.1.lt) (ay.out.2.2.2.below aK ay.out.2.2.2.lt)
 try dsimp only
 refine ad.out _ _ (k2 _ aO.out.2.1 aO.out.2.2.1 aO.out.2.2.2) (λJ=>?_);clear ad K;refine tk 11 J ?_;refine tk 12 J ?_;refine tk 13 J ?_;refine tk 14 J ?_;refine tk 15 J ?_;refine tk 16 J ?_;have bg:=fI aq (Y AL nL cL) (Y AP nP cP) x.id aF ⟨_,_,_,rfl⟩ ⟨_,_,_,rfl⟩;unfold PId.val at bg;refine aP 17 (λK ad=>?_);clear J;go_simp;refine bg.mono ?_;clear bg;rintro e w2 ⟨rfl,b2⟩;have M:=dx (aO.out.1.below b2 aO.out.1.lt) (aO.out.2.1.below b2 aO.out.2.1.lt) (aO.out.2.2.1.below b2 aO.out.2.2.1.lt) (aO.out.2.2.2.below b2 aO.out.2.2.2.lt)
 try dsimp only
 refine ad.out _ _ (k2 _ M.out.2.1 M.out.2.2.1 M.out.2.2.2) (λJ=>?_);clear ad K;refine tk 18 J ?_;refine cB ?_ _;clear k2 J;go_wp2_with fail;have bo:Below w w w2:=aU.trans ((b1.mono aU.size).trans ((aK.mono (Nat.le_trans aU.size b1.size)).trans (b2.mono (Nat.le_trans aU.size (Nat.le_trans b1.size aK.size)))));have aY:=HH.out.1.below (bo.mono (Nat.le_refl _));have aT:=HH.out.2.2.2.2.1.below (b1.trans ((aK.mono b1.size).trans (b2.mono (Nat.le_trans b1.size aK.size))));have wh:=hL S9 x A c w2.drew aT.fX HH.out.2.2.2.2.2.1.lays.1 HH.out.2.2.2.2.2.1.lays.2;unfold ae.cellsOf at wh;have aG:base<=w2.heap.size:=Nat.le_trans av bo.size;have k4:∀W:World,ai W rb 161 (ey x A c)->ai W pb 165 #[aj q]->W.cell? ⟨rb,2,none⟩=some (I af x.kind)/\W.cell? ⟨rb,3,none⟩=some (I af x.id.au)/\W.cell? ⟨rb,4,none⟩=some (I ak x.id.aq)/\W.cell? ⟨rb,5,none⟩=some (I ak x.id.ax)/\W.cell? ⟨rb,6,none⟩=some (I af x.ah)/\W.cell? ⟨rb,7,none⟩=some (I ak x.sub)/\W.cell? ⟨rb,8,none⟩=some (aa)/\W.cell? ⟨rb,9,none⟩=some (Y A x.events.length c)/\W.cell? (aj pb)=some (.pointer (aj q)):=λW h1 h2=>⟨h1.cell 2,h1.cell 3,h1.cell 4,h1.cell 5,h1.cell 6,h1.cell 7,h1.cell 8,h1.cell 9,h2.cell 0⟩;have y2:=M.out.2.2.1.cell 2;simp at y2;refine wp_region_held_drew (S:=λw'=>w'.cell? ⟨rb,2,none⟩=some (I af x.kind)/\w'.cell? ⟨rb,3,none⟩=some (I af x.id.au)/\w'.cell? ⟨rb,4,none⟩=some (I ak x.id.aq)/\w'.cell? ⟨rb,5,none⟩=some (I ak x.id.ax)/\w'.cell? ⟨rb,6,none⟩=some (I af x.ah)/\w'.cell? ⟨rb,7,none⟩=some (I ak x.sub)/\w'.cell? ⟨rb,8,none⟩=some (aa)/\w'.cell? ⟨rb,9,none⟩=some (Y A x.events.length c)/\w'.cell? (aj pb)=some (.pointer (aj q))) (by kernel_rfl) (k4 _ M.out.1 M.out.2.1) (λJ=>?_);refine tk 0 J ?_;refine tk 1 J ?_;refine tk 2 J ?_;refine tk 3 J ?_;refine tk 5 J ?_;refine tk 6 J ?_;refine wpAnyH_ready (rs:=[4,7]) (by kernel_rfl) (by simp) (AllReadyH.cons (by simp only[List.getElem?_toArray,List.getElem?_cons_succ,List.getElem?_cons_zero];rfl) (λK ad=>?_) (AllReadyH.cons (by simp only[List.getElem?_toArray,List.getElem?_cons_succ,List.getElem?_cons_zero];rfl) (λK ad=>?_) AllReadyH.nil))
 ·clear J;go_simp;refine ad.out _ _ (k4 _ M.out.1 M.out.2.1) (λJ=>?_);clear ad K;refine aP 7 (λK ad=>?_);clear J;go_simp;refine wh.mono ?_;clear wh;rintro e w3 ⟨A4,c4,rfl,h4,b3⟩;have b3:=a8 b3;have aJ:=M.out.1.below b3 M.out.1.lt;have aM:=M.out.2.1.below b3 M.out.2.1.lt;have ag:=M.out.2.2.1.below b3 M.out.2.2.1.lt;have aC:=M.out.2.2.2.below b3 M.out.2.2.2.lt;have bC:=(Below.refl w3 w3).alloc (Nat.le_refl _) (.cells (a3 x A4 c4) 132);have bi:=aJ.below bC aJ.lt;have a0:=aM.below bC aM.lt;have a2:=ag.below bC ag.lt;have bq:=aC.below bC aC.lt;have bc:=(aY.below b3).below bC;have bI:aB.R (w3.alloc (.cells (a3 x A4 c4) 132)) (bm (λb=>S b\/(Value.slice AL nL cL).ownBlock=some b) (Y AP nP cP)) (a3 x A4 c4) x:=
   ⟨A4,c4,rfl,(h4.below bC).weak (λb a7=>by
    show b<w2.heap.size;rcases a7 with(a7 | a7) | a7
    ·have:=HH.out.2.2.2.1 b a7;have:=bo.size;omega
    ·exact(aY.L.lt a7).2
    ·exact(aY.P.lt a7).2)⟩
  have z2:=ag.cell 2;simp at z2;have bA:=a2.cell 2;simp at bA
  try dsimp only
  refine ad.out _ _ (k4 _ aJ aM) (λJ=>?_);clear ad K;refine aP 8 (λK ad=>?_);clear J;exact vX
 ·clear J;go_simp;refine wh.mono ?_;clear wh;rintro e w3 ⟨A4,c4,rfl,h4,b3⟩;have b3:=a8 b3;have aJ:=M.out.1.below b3 M.out.1.lt;have aM:=M.out.2.1.below b3 M.out.2.1.lt;have ag:=M.out.2.2.1.below b3 M.out.2.2.1.lt;have aC:=M.out.2.2.2.below b3 M.out.2.2.2.lt;have bC:=(Below.refl w3 w3).alloc (Nat.le_refl _) (.cells (a3 x A4 c4) 132);have bi:=aJ.below bC aJ.lt;have a0:=aM.below bC aM.lt;have a2:=ag.below bC ag.lt;have bq:=aC.below bC aC.lt;have bc:=(aY.below b3).below bC;have bI:aB.R (w3.alloc (.cells (a3 x A4 c4) 132)) (bm (λb=>S b\/(Value.slice AL nL cL).ownBlock=some b) (Y AP nP cP)) (a3 x A4 c4) x:=
   ⟨A4,c4,rfl,(h4.below bC).weak (λb a7=>by
    show b<w2.heap.size;rcases a7 with(a7 | a7) | a7
    ·have:=HH.out.2.2.2.1 b a7;have:=bo.size;omega
    ·exact(aY.L.lt a7).2
    ·exact(aY.P.lt a7).2)⟩
  have z2:=ag.cell 2;simp at z2;have bA:=a2.cell 2;simp at bA
  try dsimp only
  refine ad.out _ _ (k4 _ aJ aM) (λJ=>?_);clear ad K;refine wpAnyH_ready (rs:=[4,8]) (by kernel_rfl) (by simp) (AllReadyH.cons (by simp only[List.getElem?_toArray,List.getElem?_cons_succ,List.getElem?_cons_zero];rfl) (λK ad=>?_) (AllReadyH.cons (by simp only[List.getElem?_toArray,List.getElem?_cons_succ,List.getElem?_cons_zero];rfl) (λK ad=>?_) AllReadyH.nil))
  focus
   clear J;go_simp;refine ad.out _ _ (k4 _ aJ aM) (λJ=>?_);clear ad K;refine aP 8 (λK ad=>?_)
  rotate_left
  focus
   clear J;go_simp;refine ad.out _ _ (k4 _ bi a0) (λJ=>?_);clear ad K;refine aP 4 (λK ad=>?_)
  all_goals
   clear J;exact vX
end Go.Proofs.YtgblliofomgggaaGreat
