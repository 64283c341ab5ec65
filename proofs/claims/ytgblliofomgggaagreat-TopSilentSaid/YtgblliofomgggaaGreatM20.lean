import Derived.Deep.RegionHeld
import Derived.Deep.DeepFit
import Derived.Test.YtgblliofomgggaaGreatM01
import Derived.Test.YtgblliofomgggaaGreatM05
import Derived.Test.YtgblliofomgggaaGreatM19
namespace Go.Proofs.YtgblliofomgggaaGreat
set_option maxRecDepth 100000
set_option maxHeartbeats 8000000
open Go.RowKit a7 bA
open Go.IntKind renaming i64 -> af,u64 -> ak
open Go.Value renaming int -> I,slice -> Y,pointer -> aL,agg -> aE
def gI(x:ae)(ev:List aO):ae:=if gM ev=true/\dZ (x.more ev)=false then x.more ev else x
theorem tJ(z:aM)(s:aC)(a:b4)(F:Nat->Prop)(S3:Nat->Prop)(A3:Option Addr)(n3 c3 i:Nat)(ev:List aO)(id:PId)(w:World)(h:bk w F z s a)(hf:Fit z s)(hi:i<s.aF.length)(hs:dj s.aF id=(i:Int))(ha:s.aF[i].asked=false)(bp:s.aF[i].entry.kind=1)(a5:s.aF[i].entry.events.length<8)(a2:n3=ev.length)(he:SliceAt cy w S3 A3 ev):
 Calls Tryz.prog 31 #[aj a.bb,id.val,Y A3 n3 c3] w λe w'=>(∃r:Int,e=.returned (ag r))/\aY w w' F z {s with aF:=s.aF.set i ⟨gI s.aF[i].entry ev,false⟩} a a:=by
 obtain⟨v,hB,D⟩:=h.ex;have bs:=h.ce;obtain⟨bb,az⟩:=am a.bb;rw[<-az]at hB bs ⊢;have bG:=Lib.hid az;unfold bi at hB;unfold PId.val;obtain⟨w0,ar⟩:=am (w.alloc (.cells (bY id) 32));have hI:ai w0 w 32 (bY id):=by rw[ar];exact ai.made _ _ _
 have aU:=aV ar;obtain⟨ib,aQ⟩:=am w.heap.size;rw[<-aQ]at hI;have a4:=Lib.hid aQ;clear aQ;have aR:=hB.below aU bs;have aJ:ai w0.drew bb 130 _:=aR;have aG:ai w0.drew ib 32 _:=hI;have aK:Below w w w0.drew:=⟨aU.os,aU.tape,aU.output,aU.size,aU.block⟩;have M:=λt ht=>(hf.aF t ht).aH;have bh:=hf.l3;have sl:=D.aF.goes (.ao aK (bO F a));have HH:=di h hf;obtain⟨l',aa⟩:∃l',l'=s.aF.set i ⟨gI s.aF[i].entry ev,false⟩:=⟨_,rfl⟩;rw[<-aa];have ah:=he.below aK;have cs:(∃er:Int,er≠0/\l'=s.aF/\Calls Tryz.prog 58 #[Y v.AT s.aF.length v.cT,id.val,Y A3 n3 c3] w0.drew λe w'=>∃v,e=.returned (.tuple #[v,ag er])/\Below w0.drew.heap.size w0.drew w')\/
  Calls Tryz.prog 58 #[Y v.AT s.aF.length v.cT,id.val,Y A3 n3 c3] w0.drew λe w'=>∃v,e=.returned (.tuple #[v,ag 0])/\aD bg 148 w' w0.drew.heap.size (λb=>b<w0.drew.heap.size) v l'/\Below w0.drew.heap.size w0.drew w':=by
  have same:s.aF.set i ⟨s.aF[i].entry,false⟩=s.aF:=by
   conv=>lhs;arg 3;rw[<-ha]
   exact List.set_getElem_self hi
  cases aB:gM ev with
  | false=>exact .inl ⟨40,by decide,by rw[aa];unfold gI;rw[if_neg (by rw[aB];simp)];exact same,qL (bO F a) S3 _ A3 _ _ i n3 c3 s.aF id ev w0.drew rfl (by omega) sl M hi hs ha a2 ah aB⟩
  | true=>
   cases bA:dZ (s.aF[i].entry.more ev)with
   | true=>exact .inl ⟨172,by decide,by rw[aa];unfold gI;rw[if_neg (by rw[bA];simp)];exact same,q2 (bO F a) S3 _ A3 _ _ i n3 c3 s.aF id ev w0.drew rfl (by omega) sl M hi hs ha a2 ah aB bp a5 bA⟩
   | false=>
    have:=rN (bO F a) S3 v.AT A3 _ v.cT i n3 c3 s.aF id ev w0.drew rfl (by omega) sl M hi hs ha a2 ah aB bp a5 bA;refine .inr ?_;rw[aa];unfold gI;rw[if_pos ⟨aB,bA⟩];exact this
 unfold PId.val at cs;clear he ah bp a5 a2 aa;have HD:=Lib.hid D;clear h hf hB aR hI az D M sl hs ha hi;go_enter Tryz.func31,Tryz.ntmps31;go_wp2_with fail;rw[<-ar]
 try rw[<-a4.out]
 clear ar;refine wp_region_held_drew (S:=(λw'=>w'.cell? (aj ib)=some (I af id.au)/\w'.cell? ⟨ib,1,none⟩=some (I ak id.aq)/\w'.cell? ⟨ib,2,none⟩=some (I ak id.ax))) (by kernel_rfl) (⟨aG.cell 0,aG.cell 1,aG.cell 2⟩) (λJ=>?_);refine tk 0 J ?_;refine tk 1 J ?_;refine tk 2 J ?_;refine tk 3 J ?_;refine tk 5 J ?_;refine tk 6 J ?_;refine aP 4 (λK ad=>?_);clear J;have y8:=aJ.cell 8;simp at y8;go_simp;clear y8;refine ad.out _ _ (⟨aG.cell 0,aG.cell 1,aG.cell 2⟩) (λJ=>?_);clear ad K;rcases cs with⟨er,aw,av,cs⟩ | cs
 ·refine aP 7 (λK ad=>?_);clear J;go_simp;go_fit cs;clear cs;rintro e w1 ⟨v1,rfl,b1⟩;have a6:=aK.trans (b1.mono aK.size);have aE:=aJ.below b1 aJ.lt;have aI:=aG.below b1 aG.lt;have kb:=w3 bb v1 er w1 aw
  try dsimp only
  refine ad.out _ _ (⟨aI.cell 0,aI.cell 1,aI.cell 2⟩) (λJ=>?_);clear ad K;refine tk 8 J ?_;refine tk 9 J ?_;refine aP 10 (λK ad=>?_);clear J;go_simp;go_fit kb;clear kb;rintro e w2 ⟨rfl,rfl⟩
  try dsimp only
  refine ad.out _ _ (⟨aI.cell 0,aI.cell 1,aI.cell 2⟩) (λJ=>?_);clear ad K;refine tk 11 J ?_;refine cB ?_ _;clear J;go_wp2;go_ret;rw[av];exact⟨⟨_,rfl⟩,aY.below HH.out.1 a6⟩
 ·refine aP 7 (λK ad=>?_);clear J;go_simp;go_fit cs;clear cs;rintro e w1 ⟨v1,rfl,O1,b1⟩;obtain⟨A1,n1,c1,rfl,bv,bU⟩:=O1.form;have a6:=aK.trans (b1.mono aK.size);have aE:=aJ.below b1 aJ.lt;have aI:=aG.below b1 aG.lt;have hN:=(HH.out.1.below aK).new b1;have s1:SliceAt bg w1 (bO (New F w0.drew w1) a) A1 l':=(O1.slice (S':=λb=>b<w0.drew.heap.size) (λb a7=>a7) (λb a7=>a7)).cJ (λb a7 e=>by
   rcases e with e | e
   ·exact Classical.byContradiction λaL=>e (.inr ⟨by omega,a7⟩)
   ·exact Nat.lt_of_lt_of_le (HH.out.1.lt b (HH.out.1.own b e)) aK.size)
  have kb:=vQ z s a _ A1 n1 c1 l' w1 hN bv.out s1;rw[<-bG.out]at kb;clear s1 O1
  try dsimp only
  refine ad.out _ _ (⟨aI.cell 0,aI.cell 1,aI.cell 2⟩) (λJ=>?_);clear ad K;refine tk 8 J ?_;refine tk 9 J ?_;refine aP 10 (λK ad=>?_);clear J;go_simp;go_fit kb;clear kb;rintro e w2 ⟨rfl,st⟩;have ae:=st.ba.aW aI (λa7=>by have:=HH.out.1.lt _ (HH.out.1.own _ a7);have:=a4.out;omega)
  try dsimp only
  refine ad.out _ _ (⟨ae.cell 0,ae.cell 1,ae.cell 2⟩) (λJ=>?_);clear ad K;refine tk 11 J ?_;refine cB ?_ _;clear J;go_wp2;go_ret;exact⟨⟨_,rfl⟩,aY.from aK ((aY.below (HH.out.1.below aK) b1).trans st)⟩
theorem yq(z:aM)(s:aC)(a:b4)(F:Nat->Prop)(i:Nat)(id:PId)(w:World)(h:bk w F z s a)(hf:Fit z s)(hi:i<s.aF.length)(hs:dj s.aF id=(i:Int))(ha:s.aF[i].asked=false):
 Calls Tryz.prog 32 #[aj a.bb,id.val] w λe w'=>e=.returned (ag 0)/\aY w w' F z {s with aF:=s.aF.set i s.aF[i].ask} a a:=by
 obtain⟨v,hB,D⟩:=h.ex;have bs:=h.ce;obtain⟨bb,az⟩:=am a.bb;rw[<-az]at hB bs ⊢;have bG:=Lib.hid az;unfold bi at hB;unfold PId.val;obtain⟨w0,ar⟩:=am (w.alloc (.cells (bY id) 32));have hI:ai w0 w 32 (bY id):=by rw[ar];exact ai.made _ _ _
 have aU:=aV ar;obtain⟨ib,aQ⟩:=am w.heap.size;rw[<-aQ]at hI;have a4:=Lib.hid aQ;clear aQ;have aR:=hB.below aU bs;have aJ:ai w0.drew bb 130 _:=aR;have aG:ai w0.drew ib 32 _:=hI;have aK:Below w w w0.drew:=⟨aU.os,aU.tape,aU.output,aU.size,aU.block⟩;have M:=λt ht=>(hf.aF t ht).aH;have bh:=hf.l3;have sl:=D.aF.goes (.ao aK (bO F a));have HH:=di h hf;obtain⟨l',aa⟩:∃l',l'=s.aF.set i s.aF[i].ask:=⟨_,rfl⟩;have cs:=ui (bO F a) v.AT _ v.cT i s.aF id w0.drew rfl (by omega) sl M hi hs ha;unfold PId.val at cs;rw[<-aa]at cs ⊢;clear aa;have HD:=Lib.hid D;clear h hf hB aR hI az D M sl hs ha hi;go_enter Tryz.func32,Tryz.ntmps32;go_wp2_with fail;rw[<-ar]
 try rw[<-a4.out]
 clear ar;refine wp_region_held_drew (S:=(λw'=>w'.cell? (aj ib)=some (I af id.au)/\w'.cell? ⟨ib,1,none⟩=some (I ak id.aq)/\w'.cell? ⟨ib,2,none⟩=some (I ak id.ax))) (by kernel_rfl) (⟨aG.cell 0,aG.cell 1,aG.cell 2⟩) (λJ=>?_);refine tk 0 J ?_;refine tk 1 J ?_;refine tk 2 J ?_;refine tk 3 J ?_;refine tk 5 J ?_;refine aP 4 (λK ad=>?_);clear J;have y8:=aJ.cell 8;simp at y8;go_simp;clear y8;refine ad.out _ _ (⟨aG.cell 0,aG.cell 1,aG.cell 2⟩) (λJ=>?_);clear ad K;refine aP 6 (λK ad=>?_);clear J;go_simp;go_fit cs;clear cs;rintro e w1 ⟨v1,rfl,O1,b1⟩;obtain⟨A1,n1,c1,rfl,bv,bU⟩:=O1.form;have a6:=aK.trans (b1.mono aK.size);have aE:=aJ.below b1 aJ.lt;have aI:=aG.below b1 aG.lt;have hN:=(HH.out.1.below aK).new b1;have s1:SliceAt bg w1 (bO (New F w0.drew w1) a) A1 l':=(O1.slice (S':=λb=>b<w0.drew.heap.size) (λb a7=>a7) (λb a7=>a7)).cJ (λb a7 e=>by
  rcases e with e | e
  ·exact Classical.byContradiction λaL=>e (.inr ⟨by omega,a7⟩)
  ·exact Nat.lt_of_lt_of_le (HH.out.1.lt b (HH.out.1.own b e)) aK.size)
 have kb:=vQ z s a _ A1 n1 c1 l' w1 hN bv.out s1;rw[<-bG.out]at kb;clear s1 O1
 try dsimp only
 refine ad.out _ _ (⟨aI.cell 0,aI.cell 1,aI.cell 2⟩) (λJ=>?_);clear ad K;refine tk 7 J ?_;refine tk 8 J ?_;refine aP 9 (λK ad=>?_);clear J;go_simp;go_fit kb;clear kb;rintro e w2 ⟨rfl,st⟩;have ae:=st.ba.aW aI (λa7=>by have:=HH.out.1.lt _ (HH.out.1.own _ a7);have:=a4.out;omega)
 try dsimp only
 refine ad.out _ _ (⟨ae.cell 0,ae.cell 1,ae.cell 2⟩) (λJ=>?_);clear ad K;refine tk 10 J ?_;refine cB ?_ _;clear J;go_wp2;go_ret;exact⟨rfl,aY.from aK ((aY.below (HH.out.1.below aK) b1).trans st)⟩
theorem wz(z:aM)(s:aC)(a:b4)(F:Nat->Prop)(id:PId)(w:World)(h:bk w F z s a)(hf:Fit z s)(ht:s.aF=[])(hl:bd s.list id=true):
 Calls Tryz.prog 36 #[aj a.bb,id.val] w λe w'=>e=.returned (ag 3)/\Below w w w':=by
 obtain⟨v,hB,D⟩:=h.ex;have bs:=h.ce;obtain⟨bb,az⟩:=am a.bb;rw[<-az]at hB bs ⊢;have bG:=Lib.hid az;unfold bi at hB;unfold PId.val;rw[ht]at hB;obtain⟨w0,ar⟩:=am (w.alloc (.cells (bY id) 32));have hI:ai w0 w 32 (bY id):=by rw[ar];exact ai.made _ _ _
 have aU:=aV ar;obtain⟨ib,aQ⟩:=am w.heap.size;rw[<-aQ]at hI;have a4:=Lib.hid aQ;clear aQ;have aR:=hB.below aU bs;have aJ:ai w0.drew bb 130 _:=aR;have aG:ai w0.drew ib 32 _:=hI;have aK:Below w w w0.drew:=⟨aU.os,aU.tape,aU.output,aU.size,aU.block⟩;have fn:=λ(w1:World)=>vd (λ_=>False) v.AT 0 v.cT [] id w1 rfl (by omega) (SliceAt.nil _ _ _ _) rfl;unfold PId.val at fn;have bl:=hI;have HD:=fm D hf.l1 hl;clear h hf hB hI az ht D hl;go_enter Tryz.func36,Tryz.ntmps36;go_wp2_with fail;rw[<-ar]
 try rw[<-a4.out]
 clear ar;refine wp_region_held_drew (S:=(λw'=>w'.cell? ⟨bb,4,none⟩=some (I ak 1)/\w'.cell? ⟨bb,5,none⟩=some (Y v.AL s.list.length v.cL)/\w'.cell? ⟨bb,6,none⟩=some (Y v.AQ s.ay.length v.cQ)/\w'.cell? ⟨bb,7,none⟩=some (aa)/\w'.cell? ⟨bb,8,none⟩=some (Y v.AT 0 v.cT)/\w'.cell? (aj ib)=some (I af id.au)/\w'.cell? ⟨ib,1,none⟩=some (I ak id.aq)/\w'.cell? ⟨ib,2,none⟩=some (I ak id.ax))) (by kernel_rfl) (⟨aJ.cell 4,aJ.cell 5,aJ.cell 6,aJ.cell 7,aJ.cell 8,aG.cell 0,aG.cell 1,aG.cell 2⟩) (λJ=>?_);refine tk 0 J ?_;refine tk 1 J ?_;refine tk 2 J ?_;refine tk 3 J ?_;refine tk 4 J ?_;refine wpAnyH_ready (rs:=[5,9]) (by kernel_rfl) (by simp) (AllReadyH.cons (by simp only[List.getElem?_toArray,List.getElem?_cons_succ,List.getElem?_cons_zero];rfl) (λK ad=>?_) (AllReadyH.cons (by simp only[List.getElem?_toArray,List.getElem?_cons_succ,List.getElem?_cons_zero];rfl) (λK ad=>?_) AllReadyH.nil))
 focus
  clear J;have fq:=fn w0.drew;go_simp;go_fit fq;clear fq;rintro e w1 ⟨rfl,b1⟩;have aE:=aJ.below b1 aJ.lt;have aI:=aG.below b1 aG.lt;have a6:=aK.trans (b1.mono aK.size)
  try dsimp only
  refine ad.out _ _ (⟨aE.cell 4,aE.cell 5,aE.cell 6,aE.cell 7,aE.cell 8,aI.cell 0,aI.cell 1,aI.cell 2⟩) (λJ=>?_);clear ad K;refine tk 6 J ?_;refine tk 7 J ?_;refine tk 8 J ?_;refine aP 9 (λK ad=>?_);clear J;go_simp;obtain⟨w2,a8⟩:=am (w1.alloc (.cells (gB false) 148));rw[<-a8];have cV:ai w2 w1 148 (gB false):=(by rw[a8];exact ai.made _ _ _);have b2:=aV a8;obtain⟨tb,bg⟩:=am w1.heap.size;rw[<-bg]at cV ⊢;have ch:=Lib.hid (show w.heap.size<=tb by have:=a6.size;omega);have bq:=aE.below b2 aE.lt;have ae:=aI.below b2 aI.lt;have bo:=a6.trans (b2.mono a6.size);have aA:bb<tb:=(by have:=aE.lt;omega);have aw:ib<tb:=(by have:=aI.lt;omega);clear a8 bg b1 b2 a6 aE aI;refine ad.out _ _ (⟨bq.cell 4,bq.cell 5,bq.cell 6,bq.cell 7,bq.cell 8,ae.cell 0,ae.cell 1,ae.cell 2⟩) (λJ=>?_);clear ad K
 rotate_left
 focus
  clear J;go_simp;obtain⟨w1,aN⟩:=am ((w0.alloc (.cells (gB false) 148)).drew)
  try rw[<-aN]
  have c5:ai w1 w0 148 (gB false):=(by rw[aN];exact ai.made _ _ _);have b1:Below w0.drew.heap.size w0.drew w1:=(by rw[aN];have hq:=(Below.refl w0 w0).alloc (Nat.le_refl _) (.cells (gB false) 148);exact⟨hq.os,hq.tape,hq.output,hq.size,hq.block⟩);obtain⟨tb,bg⟩:=am w0.heap.size;rw[<-bg]at c5 ⊢;have ch:=Lib.hid (show w.heap.size<=tb by have:=aU.size;omega);have aE:=aJ.below b1 aJ.lt;have aI:=aG.below b1 aG.lt;have a6:=aK.trans (b1.mono aK.size);have aA:bb<tb:=(by have:=aR.lt;omega);have aw:ib<tb:=(by have:=bl.lt;omega);refine ad.out _ _ (⟨aE.cell 4,aE.cell 5,aE.cell 6,aE.cell 7,aE.cell 8,aI.cell 0,aI.cell 1,aI.cell 2⟩) (λJ=>?_);clear ad K;refine aP 5 (λK ad=>?_);clear J;have fq:=fn w1;rw[aN]at fq;go_simp
  try rw[<-bg]
  go_fit fq;clear fq;rintro e w2 ⟨rfl,b2⟩;rw[<-aN]at b2;have cV:=c5.below b2 c5.lt;have bq:=aE.below b2 aE.lt;have ae:=aI.below b2 aI.lt;have bo:=a6.trans (b2.mono a6.size);clear aN bg b1 b2 a6 aE aI c5
  try dsimp only
  refine ad.out _ _ (⟨bq.cell 4,bq.cell 5,bq.cell 6,bq.cell 7,bq.cell 8,ae.cell 0,ae.cell 1,ae.cell 2⟩) (λJ=>?_);clear ad K;refine tk 6 J ?_;refine tk 7 J ?_;refine tk 8 J ?_
 all_goals
  refine aP 10 (λK ad=>?_);clear J;refine bH 148 (.tmp 5) (.tmp 16) rfl tb (gB false) rfl rfl 148 _ cV (by kernel_rfl) rfl (by kernel_rfl) ?_;intro w3 eh g3 s3;have bW:=bq.grown g3 (λe=>by have e:=Option.some.inj e;omega);have aH:=ae.grown g3 (λe=>by have e:=Option.some.inj e;omega);have br:=bo.grown g3 bo.size (λk e=>by have e:=Option.some.inj e;have:=ch.out;omega);refine ad.out _ _ (⟨bW.cell 4,bW.cell 5,bW.cell 6,bW.cell 7,bW.cell 8,aH.cell 0,aH.cell 1,aH.cell 2⟩) (λJ=>?_);clear ad K;refine tk 11 J ?_;refine cB ?_ _;clear J;have av:Below w w w3.drew:=⟨br.os,br.tape,br.output,br.size,br.block⟩;have M:ai w3.drew bb 130 _:=bW;have ah:ai w3.drew ib 32 _:=aH;have hs:=g7 (bO F a) 1 v.AL s.list.length v.cL s.list (Y v.AQ s.ay.length v.cQ) aa id w3.drew rfl (by have:=HD.out.2.1;omega) (HD.out.1.list.goes (.ao av _)) ⟨_,_,_,rfl⟩ ⟨_,_,_,rfl⟩;rw[HD.out.2.2]at hs;unfold PId.val at hs;go_wp2_with fail;refine wp_region_held_drew (S:=(λw'=>w'.cell? ⟨bb,4,none⟩=some (I ak 1)/\w'.cell? ⟨bb,5,none⟩=some (Y v.AL s.list.length v.cL)/\w'.cell? ⟨bb,6,none⟩=some (Y v.AQ s.ay.length v.cQ)/\w'.cell? ⟨bb,7,none⟩=some (aa)/\w'.cell? ⟨bb,8,none⟩=some (Y v.AT 0 v.cT)/\w'.cell? (aj ib)=some (I af id.au)/\w'.cell? ⟨ib,1,none⟩=some (I ak id.aq)/\w'.cell? ⟨ib,2,none⟩=some (I ak id.ax))) (by kernel_rfl) (⟨M.cell 4,M.cell 5,M.cell 6,M.cell 7,M.cell 8,ah.cell 0,ah.cell 1,ah.cell 2⟩) (λJ=>?_);refine tk 0 J ?_;refine tk 1 J ?_;refine tk 2 J ?_;refine tk 3 J ?_;refine tk 4 J ?_;refine aP 5 (λK ad=>?_);clear J;go_simp;go_fit hs;clear hs;rintro e w4 ⟨rfl,bK⟩;have bt:=M.below bK M.lt;have aB:=ah.below bK ah.lt
  try dsimp only
  refine ad.out _ _ (⟨bt.cell 4,bt.cell 5,bt.cell 6,bt.cell 7,bt.cell 8,aB.cell 0,aB.cell 1,aB.cell 2⟩) (λJ=>?_);clear ad K;refine tk 6 J ?_;refine cB ?_ _;clear J;go_wp2;go_ret;exact⟨rfl,av.trans (bK.mono av.size)⟩
theorem xj(k:Int)(A A2:Option Addr)(n c aZ c2:Nat):(Program.built Tryz.prog 49 [(0,I ak k),(1,Y A n c),(2,Y A2 aZ c2),(3,aa)]).map Array.toList=some [I ak k,Y A n c,Y A2 aZ c2,aa]:=by kernel_rfl
theorem xL(k:Int)(A A2:Option Addr)(n c aZ c2:Nat)(w:World):(Instr.build 49 #[(0,I ak k),(1,Y A n c),(2,Y A2 aZ c2),(3,aa)]).run Tryz.prog w=.ok (bT k A n c A2 aZ c2) w:=by
 obtain⟨cs,h1,h2⟩:=Option.map_eq_some_iff.1 (xj k A A2 n c aZ c2);rw[run_build w 49 _ cs h1];rw[show cs=#[I ak k,Y A n c,Y A2 aZ c2,aa] from Array.toList_inj.1 h2]
theorem zJ(z:aM)(s:aC)(a:b4)(F:Nat->Prop)(w:World)(h:bk w F z s a)(hf:Fit z s):
 Calls Tryz.prog 38 #[aj a.bb] w λe w'=>∃A c A2 aZ c2,e=.returned (bT 1 A s.list.length c A2 aZ c2)/\Below w w w':=by
 obtain⟨v,hB,D⟩:=h.ex;have bs:=h.ce;obtain⟨bb,az⟩:=am a.bb;rw[<-az]at hB bs ⊢;have bG:=Lib.hid az;unfold bi at hB;obtain⟨w0,ar⟩:=am (w.alloc (.cells (bp 0 aa aa) 49));have aI:ai w0 w 49 (bp 0 aa aa):=by rw[ar];exact ai.made _ _ _
 have aU:=aV ar;obtain⟨rb,bh⟩:=am w.heap.size;rw[<-bh]at aI;have bn:=Lib.hid bh;have aR:=hB.below aU bs;have aJ:ai w0.drew bb 130 _:=aR;have aA:ai w0.drew rb 49 _:=aI;have aK:Below w w w0.drew:=⟨aU.os,aU.tape,aU.output,aU.size,aU.block⟩;have a9:=hf.l1;have b9:=hf.l2;have aN:=λx hx=>(hf.list x hx).aH;have aF:=λx hx=>(hf.ay x hx).aH;have c1:=js (bO F a) v.AL s.list.length v.cL s.list w0.drew rfl (by omega) (D.list.goes (.ao aK _)) aN;have C2:=Lib.hid (λ(w1:World) (b1:Below w w w1)=>js (bO F a) v.AQ s.ay.length v.cQ s.ay w1 rfl (by omega) (D.prom.goes (.ao b1 _)) aF);have bF:=λ(A A2:Option Addr) (n c aZ c2:Nat) w=>xL 1 A A2 n c aZ c2 w;clear h hf hB aR az D aI aN aF bh;go_enter Tryz.func38,Tryz.ntmps38;go_wp2_with fail;rw[<-ar]
 try rw[<-bn.out]
 clear ar;refine wp_region_held_drew (S:=(λw'=>w'.cell? ⟨bb,4,none⟩=some (I ak 1)/\w'.cell? ⟨bb,5,none⟩=some (Y v.AL s.list.length v.cL)/\w'.cell? ⟨bb,6,none⟩=some (Y v.AQ s.ay.length v.cQ)/\w'.cell? ⟨bb,7,none⟩=some (aa))) (by kernel_rfl) (⟨aJ.cell 4,aJ.cell 5,aJ.cell 6,aJ.cell 7⟩) (λJ=>?_);refine tk 0 J ?_;refine tk 1 J ?_;refine tk 2 J ?_;refine tk 3 J ?_;refine tk 4 J ?_;refine tk 5 J ?_;refine tk 6 J ?_;refine tk 7 J ?_;refine tk 8 J ?_;refine tk 9 J ?_;refine tk 11 J ?_;refine tk 12 J ?_;refine tk 13 J ?_;refine tk 14 J ?_;refine tk 15 J ?_;refine tk 17 J ?_;refine tk 18 J ?_;refine tk 19 J ?_;refine tk 20 J ?_;refine tk 21 J ?_;refine aP 10 (λK ad=>?_);clear J;go_simp;go_fit c1;clear c1;rintro e w1 ⟨v1,rfl,O1,b1⟩;obtain⟨A1,n1,m1,rfl,bv,bU⟩:=O1.form;have aE:=aJ.below b1 aJ.lt;have bz:=aA.below b1 aA.lt;have a6:=aK.trans (b1.mono aK.size);have c2:=C2.out w1 a6
 try dsimp only
 refine ad.out _ _ (⟨aE.cell 4,aE.cell 5,aE.cell 6,aE.cell 7⟩) (λJ=>?_);clear ad K;refine aP 16 (λK ad=>?_);clear J;go_simp;go_fit c2;clear c2;rintro e w2 ⟨v2,rfl,O2,b2⟩;obtain⟨A2,aZ,m2,rfl,aO,aT⟩:=O2.form;have bq:=aE.below b2 aE.lt;have bN:=bz.below b2 bz.lt;have bo:=a6.trans (b2.mono a6.size);have ci:=nR w2
 try dsimp only
 refine ad.out _ _ (⟨bq.cell 4,bq.cell 5,bq.cell 6,bq.cell 7⟩) (λJ=>?_);clear ad K;refine aP 22 (λK ad=>?_);clear J;go_simp;go_fit ci;clear ci;rintro e w3 ⟨rfl,rfl⟩
 try dsimp only
 refine ad.out _ _ (⟨bq.cell 4,bq.cell 5,bq.cell 6,bq.cell 7⟩) (λJ=>?_);clear ad K;refine tk 23 J ?_;refine aP 24 (λK ad=>?_);clear J;refine bH 49 (.tmp 2) (.tmp 29) rfl rb (bT 1 A1 n1 m1 A2 aZ m2) rfl rfl 49 _ bN (by kernel_rfl) rfl (by kernel_rfl) ?_;intro w4 aX g4 s4;have bt:=bq.grown g4 (λe=>by have e:=Option.some.inj e;have:=bn.out;omega);refine ad.out _ _ (⟨bt.cell 4,bt.cell 5,bt.cell 6,bt.cell 7⟩) (λJ=>?_);clear ad K;refine cB ?_ _;clear J;go_wp2_with fail
 try rw[Exit.noGoto_ret]
 refine bodyPost_ret (results_cell_row rfl _ _ rb 49 _ (0,0) _ rfl aX Tryz.underlying49 rfl (by kernel_rfl)) rfl ?_;exact⟨A1,m1,A2,aZ,m2,by rw[<-bv.out],bo.grown g4 bo.size (λk e=>by have e:=Option.some.inj e;have:=bn.out;omega)⟩
structure ju (l:List ae) (ah j:Nat):Prop where
 le:j<=l.length
 no:∀i (h:i<l.length),i<j->fg (bQ (l.take i)) ah l[i]=[]
 yes:∀ (h:j<l.length),0<(fg (bQ (l.take j)) ah l[j]).length
def fU(l:List ae)(ah j:Nat):List (List aO):=if h:j<l.length then fg (bQ (l.take j)) ah l[j]else []
def ia(l:List ae)(j:Nat):Nat:=if j<l.length then j+1 else l.length
theorem vO{P:Prop}(h:P:=by
 clear hk J;go_wp2_with fail;go_fit ap;clear ap x0 x1 x2 x3 x4 x5 x6 x7;rintro e w5 ⟨v5,rfl,O5,bS⟩;go_wp2
 go_round
 case rel=>exact⟨i+1,by go_num,by omega,by rw[HE.out];exact(O5.mono bp.size).weak (λb a7=>Nat.lt_of_lt_of_le a7 bp.size),bp.trans (bS.mono bp.size)⟩
 case measure=>simp[intOf];omega
 ):P:=h
theorem wu(z:aM)(s:aC)(a:b4)(F:Nat->Prop)(ah j:Nat)(w:World)(hz:z.ok)(h:bk w F z s a)(hf:Fit z s)(hc:ah<z.homes.length)(hh:z.homes[ah]=z.me)(hp:ju s.list ah j):
 Calls Tryz.prog 33 #[aj a.bb,ag ah,ag 0] w λe w'=>∃v,e=.returned (.tuple #[v,ag (ia s.list j),ag 0])/\aD aN 39 w' w (λb=>b<w.heap.size) v (fU s.list ah j)/\Below w w w':=by
 obtain⟨v,hB,D⟩:=h.ex;have bs:=h.ce;obtain⟨bb,az⟩:=am a.bb;rw[<-az]at hB bs ⊢;have bG:=Lib.hid az;unfold bi at hB;have ho:=vv z s a F ah w h hz hc hh;rw[<-az]at ho;have HH:=ja h hf hp D hz;obtain⟨n,aL⟩:=am s.list.length;rw[<-aL]at hB;have HN:=Lib.hid aL;have av:n<=60:=by rw[aL];exact hf.l1
 have aJ:j<=n:=by rw[aL];exact hp.le
 have bc:ah<32:=by have:=hz.h2;omega
 obtain⟨AL,ad⟩:=am v.AL;have DL:=D.list;rw[<-ad]at hB DL;clear h hf hp hz hc hh D az aL ad;go_enter Tryz.func33,Tryz.ntmps33;go_wp2_with fail;go_fit ho;clear ho;rintro e w1 ⟨rfl,b1⟩;have aE:=hB.below b1 bs;have y5:=aE.cell 5;simp at y5;have sb:=lM z s a F 0 w1 (HH.out.1.below b1) HH.out.2.1 (Nat.zero_le _);rw[<-bG.out]at sb;go_wp2_with fail;go_fit sb;clear sb y5;rintro e w2 ⟨vS,rfl,OS,b2⟩;have bo:=b1.trans (b2.mono b1.size);have ay:aD du 192 w2 w (λb=>b<w.heap.size) vS (bQ (s.list.take 0)):=(OS.mono b1.size).weak (λb a7=>Nat.lt_of_lt_of_le a7 b1.size);clear OS;go_wp2_with fail
 go_loopw [10,11] (λv_ i_ wr=>∃i:Nat,i_=I af i/\i<=j/\aD du 192 wr w (λb=>b<w.heap.size) v_ (bQ (s.list.take i))/\Below w w wr) (λ_ i _=>n- (intOf i).toNat)
 case atStart=>exact⟨0,rfl,by omega,ay,bo⟩
 case round=>
  obtain⟨i,rfl,hi,O,a7⟩:=hrel;by_cases bA:i<n
  ·have bu:i<s.list.length:=(by have:=HN.out;omega);have bE:(i:Int)<(n:Int):=(by omega);have cF:=hB.below a7 bs;have y5:=cF.cell 5;simp at y5;have aX:=(HH.out.2.1.list _ (List.getElem_mem bu)).aH;have J:=HH.out.2.1.lX i bu;have a4:=Lib.hid (jt s.list i bu);have a6:=Lib.hid (HH.out.2.2.1.no i bu);obtain⟨b,off,u,rfl,bV,b8,bx,hcell,A2,c8,hu,h2⟩:=(DL.goes (.ao a7 _)).at_ bu (by decide);rw[hu]at hcell;have d0:wr.cell? ⟨b,off+i*8,none⟩=some (I af s.list[i].kind):=hcell 0 _ rfl;have d1:wr.cell? ⟨b,off+i*8+1,none⟩=some (I af s.list[i].id.au):=hcell 1 _ rfl;have d2:wr.cell? ⟨b,off+i*8+2,none⟩=some (I ak s.list[i].id.aq):=hcell 2 _ rfl;have d3:wr.cell? ⟨b,off+i*8+3,none⟩=some (I ak s.list[i].id.ax):=hcell 3 _ rfl;have d4:wr.cell? ⟨b,off+i*8+4,none⟩=some (I af s.list[i].ah):=hcell 4 _ rfl;have d5:wr.cell? ⟨b,off+i*8+5,none⟩=some (I ak s.list[i].sub):=hcell 5 _ rfl;have d7:wr.cell? ⟨b,off+i*8+7,none⟩=some (Y A2 s.list[i].events.length c8):=hcell 7 _ rfl;have d6:wr.cell? ⟨b,off+i*8+6,none⟩=some aa:=hcell 6 _ rfl;obtain⟨x,hx⟩:=am (s.list[i]);rw[<-hx]at d0 d1 d2 d3 d4 d5 d7 h2 aX a4 J a6;have HX:=Lib.hid hx;have ar:=Lib.hid bu;obtain⟨l,hl⟩:=am (bQ (s.list.take i));have a9:l.length<=1:=(by rw[hl];exact lj _);rw[<-hl]at O a4 J a6;have HL:=Lib.hid hl;obtain⟨w3,bd⟩:=am (wr.alloc (.cells (a3 x A2 c8) 132));have b3:=aV bd;have aT:ai w3 wr 132 (a3 x A2 c8):=(by rw[bd];exact ai.made _ _ _);obtain⟨xb,a0⟩:=am wr.heap.size;rw[<-a0]at aT;have bj:=Lib.hid a0;have O3:=O.below b3;have br:=a7.trans (b3.mono a7.size);obtain⟨A3,n3,c3,rfl,a2,bY⟩:=O.form;have aI:n3<=1:=(by rw[a2.out];exact a9);have bC:=tr (λ_=>False) (bO F a) A3 A2 n3 c8 c3 ah l x w3 a2.out (by omega) (O3.slice (λb h=>h.elim) (λb h=>h.elim)) (h2.below b3) aX;clear hcell bx hu hx h2 hl a0;go_wp2_with fail
   try rw[<-bd]
   try rw[<-bj.out]
   clear bd d0 d1 d2 d3 d4 d5 d6 d7 y5;go_fit bC;clear bC;rintro e w4 ⟨vB,rfl,OB,bK⟩;obtain⟨AB,nB,cB,rfl,ae,aA⟩:=OB.form;have bp:=br.trans (bK.mono br.size);have aO:=aT.below bK aT.lt;have O4:=O3.below bK;by_cases M:i=j
   ·subst M;have hy:=HH.out.2.2.1.yes ar.out;rw[<-HX.out,<-HL.out,<-ae.out]at hy;have g:((nB:Int)>0):=(by omega);clear J aO aT;go_wp2
    try rw[Exit.noGoto_ret]
    go_ret3;have e1:ia s.list i=i+1:=if_pos ar.out;have a5:fU s.list ah i=fg l ah x:=(by unfold fU;rw[dif_pos ar.out,<-HX.out,<-HL.out]);exact⟨_,by rw[e1];rfl,by rw[a5];exact(OB.mono br.size).weak (λb a7=>Nat.lt_of_lt_of_le a7 br.size),bp⟩
   ·have aS:=a6.out (by omega);rw[aS]at ae;have aw:nB=0:=ae.out;subst aw;have aB:=aX.kind;obtain⟨x0,x1,x2,x3,x4,x5,x6,x7⟩:=aO.c8;simp at x0 x1 x2 x3 x4 x5 x6 x7;clear aX aT OB aS;rcases aB with hk | hk | hk
    ·have g:((x.kind:Int) !=1)=false:=(by simp;omega);have HE:Hid (bQ (s.list.take (i+1))=l):=by
      show _=_;rw[a4.out];unfold dR;rw[if_neg (by omega),if_neg (by omega)]
     clear hk J;go_wp2
     go_round
     case rel=>exact⟨i+1,by go_num,by omega,by rw[HE.out];exact O4,bp⟩
     case measure=>simp[intOf];omega
    ·have g:((x.kind:Int) !=1)=true:=(by simp;omega);have HE:Hid (bQ (s.list.take (i+1))=[⟨x.ah,x.sub⟩]):=by
      show _=_;rw[a4.out];unfold dR;rw[if_pos hk]
     have aG:n3=0:=(by rw[a2.out,J.1 hk];rfl);subst aG;have ap:=mV A3 A2 c3 c8 x w4 hk;exact vO
    ·have g:((x.kind:Int) !=1)=true:=(by simp;omega);have HE:Hid (bQ (s.list.take (i+1))=[]):=by
      show _=_;rw[a4.out];unfold dR;rw[if_neg (by omega),if_pos hk]
     have a9:=J.2 hk;have bv:n3=1:=(by rw[a2.out,a9];rfl);subst bv;rw[a9]at O4;have ap:=kq A3 A2 c3 c8 x w4 hk (λ_=>False) (O4.slice (λb h=>h.elim) (λb h=>h.elim));exact vO
  ·obtain rfl:i=n:=(by omega);have aF:j=i:=(by omega);have e1:ia s.list j=i:=(by unfold ia;rw[if_neg (by rw[<-HN.out];omega),<-HN.out]);have a5:fU s.list ah j=[]:=dif_neg (by rw[<-HN.out];omega);have HE:=di e1 a5;clear e1 a5 aF;go_wp2
   try rw[Exit.noGoto_ret]
   go_ret3;exact⟨_,by rw[HE.out.1];rfl,by rw[HE.out.2];exact aD.nil _ _ _ _ _,a7⟩
section
def dz:Value->Option Nat
 | Y (some a) _ _=>some a.block
 | .map (some b)=>some b
 | _=>none
def upd{α:Type}(f:Nat->α)(m:Nat)(v:α):Nat->α:=λj=>if j=m then v else f j
def dV(b:Nat->Bool):Nat->Nat
 | 0=>0
 | k+1=>dV b k+(if b k then 0 else 1)
def okB(rd:List Nat)(idx:Nat->Nat)(bs:List Bool):Bool:=bs.all id || ((rd.all λi=>(List.range bs.length).any λm=> !(bs.getD m true)&&Nat.beq (idx m) i)&& !rd.isEmpty)
theorem ph{rd:List Nat}{idx:Nat->Nat}{b:Nat->Bool}{k m:Nat}(h:okB rd idx ((List.range k).map b)=true)(hm:m<k)(a7:b m=false):rd≠[]/\∀i∈rd,∃m,m<k/\b m=false/\i=idx m:=by
 unfold okB at h;have aL:((List.range k).map b).all id=false:=by
  cases e:((List.range k).map b).all id with
  | false=>rfl
  | true=>
   have:=List.all_eq_true.1 e (b m) (List.mem_map_of_mem (List.mem_range.2 hm));rw[a7]at this;cases this
 rw[aL,Bool.false_or,Bool.and_eq_true]at h;refine⟨λe=>by rw[e]at h;simp at h,λi hi=>?_⟩;obtain⟨m,hm,h2⟩:=List.any_eq_true.1 (List.all_eq_true.1 h.1 i hi);have hm:=List.mem_range.1 hm;rw[List.length_map,List.length_range]at hm;rw[Bool.and_eq_true,Nat.beq_eq,List.getD_eq_getElem?_getD,List.getElem?_map,List.getElem?_range hm]at h2;exact⟨m,hm,by simpa using h2.1,h2.2.symm⟩
def cr(d:Nat->Nat)(f:Nat->Value):Nat->Act->Act
 | 0,a=>a
 | k+1,a=>(cr d f k a).put (some (d k)) (f k)
theorem wO(a:Act)(i:Nat)(u v:Value):(a.put (some i) u).put (some i) v=a.put (some i) v:=by
 unfold Act.put;simp
theorem put_comm(a:Act){i j:Nat}(h:i≠j)(u v:Value):(a.put (some i) u).put (some j) v=(a.put (some j) v).put (some i) u:=by
 simp only[Act.put,Act.mk.injEq,and_true];apply Array.ext
 ·simp
 ·intro q h1 h2;rw[Array.getElem_setIfInBounds,Array.getElem_setIfInBounds,Array.getElem_setIfInBounds,Array.getElem_setIfInBounds]
  ·by_cases e1:j=q
   ·subst e1;rw[if_pos rfl,if_neg h,if_pos rfl]
   ·rw[if_neg e1,if_neg e1]
  all_goals simpa using h1
theorem j2(d:Nat->Nat){f g:Nat->Value}(a:Act):∀k,(∀m,m<k->f m=g m)->cr d f k a=cr d g k a
 | 0,_=>rfl
 | k+1,h=>by rw[cr,cr,j2 d a k (λm hm=>h m (by omega)),h k (by omega)]
theorem j1(d:Nat->Nat)(f:Nat->Value)(a:Act):∀ (k:Nat),(∀m m',m<k->m'<k->m≠m'->d m≠d m')->∀ (m:Nat) (v:Value),m<k->(cr d f k a).put (some (d m)) v=cr d (upd f m v) k a
 | 0,_,m,v,h=>by omega
 | k+1,hd,m,v,h=>by
  rw[cr,cr];by_cases e:m=k
  ·subst e;rw[wO,show upd f m v m=v from if_pos rfl];congr 1;exact j2 d a m (λj hj=>(if_neg (by omega):upd f m v j=f j).symm)
  ·rw[put_comm _ (hd k m (by omega) h (λq=>e q.symm)),j1 d f a k (λx y hx hy=>hd x y (by omega) (by omega)) m v (by omega),show upd f m v k=f k from if_neg (λq=>e q.symm)]
theorem eI(b:Nat->Bool)(k:Nat):dV b (k+1)=dV b k+(if b k then 0 else 1):=rfl
theorem qZ{α:Type}(f:Nat->α){m k:Nat}(v:α)(h:k≠m):upd f m v k=f k:=if_neg h
theorem BR{α:Type}(f:Nat->α)(m:Nat)(v:α):upd f m v m=v:=if_pos rfl
theorem kE{b:Nat->Bool}{m:Nat}:∀j,j<=m->dV (upd b m true) j=dV b j
 | 0,_=>rfl
 | j+1,h=>by rw[eI,eI,kE j (by omega),qZ b true (show j≠m by omega)]
theorem k7{b:Nat->Bool}{m:Nat}(hm:b m=false):∀ (k:Nat),m<k->dV b k=dV (upd b m true) k+1
 | 0,h=>by omega
 | k+1,h=>by
  rw[eI,eI];by_cases hk:m=k
  ·subst hk;rw[kE m (Nat.le_refl _),hm,BR];rfl
  ·rw[k7 hm k (by omega),qZ b true (λe=>hk e.symm)];omega
theorem kD{b:Nat->Bool}:∀ (k:Nat),(∀m,m<k->b m=true)->dV b k=0
 | 0,_=>rfl
 | k+1,h=>by rw[eI,kD k (λm hm=>h m (by omega)),h k (by omega)];rfl
theorem jT{b:Nat->Bool}:∀ (k:Nat),dV b k=0->∀m,m<k->b m=true
 | 0,_,m,h=>by omega
 | k+1,h,m,hm=>by
  rw[eI]at h;by_cases e:m=k
  ·subst e;cases a7:b m with
   | true=>rfl
   | false=>rw[a7]at h;simp at h
  ·exact jT k (by omega) m (by omega)
section
variable {P:Program}{md:Region.Mode}{ops:Array Oper}{Q:Exit->Act->World->Prop}{S:World->Prop}
theorem jo(k r:Nat)(idx:Nat->Nat)(d:Nat->Nat)(I:(Nat->Bool)->Array Bool)(Pm:Nat->Value->World->Prop){w0:World}{fuel:Nat}{listed:Array Bool}{a:Act}
 (hl:listed=I λ_=>false) (ha:a=cr d (λ_=>undef) k a) (aj:∀m m',m<k->m'<k->m≠m'->d m≠d m') (ah:k+r<=fuel)
 (ae:∀b,okB (Region.ready md ops (I b)) idx ((List.range k).map b)=true)
 (cO:∀b m,m<k->(I b).setIfInBounds (idx m) true=I (upd b m true))
 (ai:∀b b',(∀m,m<k->b m=b' m)->I b=I b')
 (stable:∀m,m<k->∀v w w',Pm m v w->Below w w w'->Pm m v w')
 (hS:∀w',Below w0 w0 w'->S w')
 (step:∀m,m<k->∃o,ops[idx m]? =some o/\∀f w K',Below w0 w0 w->(∀v w',Pm m v w'->Below w w w'->(∀b,dz v=some b->w.heap.size<=b/\b<w'.heap.size)->K' ((cr d f k a).put (some (d m)) v) w')->
  if Region.wanted o (yielded ops (cr d f k a).tmps)=true then Oper.wp P o (cr d f k a) w K' Q else K' ((cr d f k a).put o.dst undef) w)
 (fin:∀f w,(∀m,m<k->Pm m (f m) w)->Below w0 w0 w->(∀m,m<k->∀b,dz (f m)=some b->w0.heap.size<=b/\b<w.heap.size)->(∀m m',m<k->m'<k->m≠m'->∀b,dz (f m)=some b->dz (f m')≠some b)->∀fuel,r<=fuel->wpAnyH P md ops Q S fuel (I λ_=>true) (cr d f k a) w):
 wpAnyH P md ops Q S fuel listed a w0:=by
 suffices h:∀ (n:Nat) (b:Nat->Bool) (f:Nat->Value) (w:World),dV b k=n->(∀m,m<k->b m=true->Pm m (f m) w)->Below w0 w0 w->(∀m,m<k->b m=true->∀g,dz (f m)=some g->w0.heap.size<=g/\g<w.heap.size)->
  (∀m m',m<k->m'<k->m≠m'->b m=true->b m'=true->∀g,dz (f m)=some g->dz (f m')≠some g)->∀fuel,n+r<=fuel->wpAnyH P md ops Q S fuel (I b) (cr d f k a) w by
  rw[hl]
  conv=>arg 8;rw[ha]
  refine h (dV (λ_=>false) k) _ _ w0 rfl (λm _ e=>by cases e) (Below.refl _ _) (λm _ e=>by cases e) (λm _ _ _ _ e=>by cases e) fuel ?_;have:∀k,dV (λ_=>false) k=k:=λk=>by
   induction k with
   | zero=>rfl
   | succ k M=>show dV _ k+1=_;rw[M]
  rw[this];exact ah
 intro n
 induction n with
 | zero=>
  intro b f w hc bv a7 hg hd fuel hf;have ht:=jT k hc;rw[ai b (λ_=>true) ht];exact fin f w (λm hm=>bv m hm (ht m hm)) a7 (λm hm=>hg m hm (ht m hm)) (λm m' hm aa ay=>hd m m' hm aa ay (ht m hm) (ht m' aa)) fuel (by omega)
 | succ n M=>
  intro b f w hc bv a7 hg hd fuel hf;obtain⟨fuel,rfl⟩:∃q,fuel=q+1:=⟨fuel-1,by omega⟩;have am:∃m,m<k/\b m=false:=Classical.byContradiction λaL=>by
   have:dV b k=0:=kD k (λm hm=>by
    cases e:b m with
    | true=>rfl
    | false=>exact absurd ⟨m,hm,e⟩ aL)
   omega
  obtain⟨m0,az,ak⟩:=am;refine wpAnyH_all rfl (ph (ae b) az ak).1 (λi hi=>?_)
  ·obtain⟨m,hm,dN,rfl⟩:=(ph (ae b) az ak).2 i hi;obtain⟨o,ho,aw⟩:=step m hm;refine wpOp_step ho (λK' ad=>aw f w K' a7 (λv w' hv J b7=>ad _ _ ⟨hS w' (a7.trans (J.mono a7.size)),?_⟩));rw[cO b m hm,j1 d f a k aj m v hm];have h1:=a7.size;have h2:=J.size;refine M (upd b m true) (upd f m v) w' (by have:=k7 dN k hm;omega) (λj hj Y=>?_) (a7.trans (J.mono a7.size)) (λj hj Y g af=>?_) (λj j' hj ao ay Y ag g af=>?_) fuel (by omega)
   ·unfold upd at Y ⊢;split
    ·rename_i e;subst e;exact hv
    ·rename_i e;rw[if_neg e]at Y;exact stable j hj _ _ _ (bv j hj Y) J
   ·unfold upd at Y af;split at af
    ·have:=b7 g af;omega
    ·rename_i e;rw[if_neg e]at Y;have:=hg j hj Y g af;omega
   ·unfold upd at Y ag af ⊢;split at af
    ·rename_i e;subst e;rw[if_neg (λe=>ay e.symm)]at ag ⊢;intro e;have a1:=hg j' ao ag g e;have h4:=b7 g af;omega
    ·rename_i e;rw[if_neg e]at Y;have a1:=hg j hj Y g af;split
     ·intro a5;have h4:=b7 g a5;omega
     ·rename_i e3;rw[if_neg e3]at ag;exact hd j j' hj ao ay Y ag g af
theorem hV{o:Oper}{a:Act}{w:World}{K:Act->World->Prop}{E:Prop}(ae:o.guard=none)(t:TypeId)(ho:o.op=.makeMap t none)(h:K (a.put o.dst (.map (some w.heap.size))) (w.alloc (.map #[] 0))):
 if Region.wanted o (yielded ops a.tmps)=true then Oper.wp P o a w K Q else E:=by
 have hw:Region.wanted o (yielded ops a.tmps)=true:=by simp[Region.wanted,ae]
 rw[if_pos hw];have hr:(Instr.makeMap t none).run P w=.ok (.map (some w.heap.size)) (w.alloc (.map #[] 0)):=rfl;unfold Oper.wp execOp;simp only[ho,Sem.run_bind,Sem.run_pure,Option.map_none,hr,Result.andThen_ok];exact h
end
end
theorem b8.bare{w:World}{S S':Nat->Prop}{L:cc}{last room:Nat}(h:b8 w S L [] last room)(hs:∀b,L.bE b->S' b):b8 w S' L [] last room:=by
 obtain⟨v,h1,h2,us,k1,k2,k3⟩:=h.ex;refine⟨⟨v,h1,h2,us,k1,k2,λi u a _ ha=>by simp at ha⟩,h.eN,h.small,hs⟩
theorem lr:(bG.enc (.aq 1)).length=4:=by kernel_rfl
theorem qI{P:Program}{fn:Func}{p u t9:Tmp}{ty:TypeId}(h:fn.results=#[.tmp t9,.cell p ty,.tmp u])(tmps:Array Value)(w:World)(g:Nat)(t:TypeId)(cs:Array Value)(fr:Nat×Nat)(d:TypeDesc)
 (hp:tmps.getD p undef=.pointer (aj g)) (hg:w.heap[g]? =some (.cells cs t fr))
 (hu:P.underlying ty=some d) (hd:(match d with | .struct _ | .array _ _=>true | _=>false)=true) (hi:(P.info? ty).map (·.size)=some cs.size):
 (results fn tmps).run P w=.ok (.tuple #[tmps.getD t9 undef,aE cs,tmps.getD u undef]) w:=by
 have e:(results fn tmps).run P w=((asAddr (tmps.getD p undef)).run P w).andThen λa I=>((loadVar ty a).run P I).andThen λv J=>.ok (.tuple #[tmps.getD t9 undef,v,tmps.getD u undef]) J:=by
  simp only[results,h];simp[Sem.run_bind,Result.andThen]
 rw[e,hp];simp[asAddr,run_loadVar_row w g t ty cs fr d hg hu hd hi,Result.andThen]
theorem uD(q room:Nat)(w:World)(hD:Dk.cY w q 0 none [] 0 room)(hr:200<=room):
 Calls Tryz.prog 92 #[aj q] w λe w'=>∃ (L:cc) (A8 A9:Option Addr) (c8 c9:Nat),e=.returned (.tuple #[aj L.g,bT 1 A8 0 c8 A9 0 c9,ag 0])/\L.q=q/\
  b8 w' (λb=>b<w.heap.size\/L.bE b) L [bG.enc (.aq 1)] ([bG.enc (.aq 1)].map Fr.wrap).flatten.length room/\aw (λb=>b=q) w w'/\(∀b,L.bE b->b=q\/w.heap.size<=b):=by
 have bQ:q<w.heap.size:=by
  obtain⟨A,c,_,a7,_⟩:=hD;exact ai.lt (w:=w) a7
 obtain⟨w0,ar⟩:=am (w.alloc (.cells (bp 0 aa aa) 49));have ay:ai w0 w 49 (bp 0 aa aa):=by rw[ar];exact ai.made _ _ _
 have aU:=aV ar;obtain⟨rb,bh⟩:=am w.heap.size;rw[<-bh]at ay;have bn:=Lib.hid bh;have D0:=cF (F:=λ_=>False) (F':=λ_=>False) hD (Goes.ao aU _) (λh=>h) (λ_ _ h=>h);have op:=pV (λb=>b<w0.heap.size) q none [] 0 room w0 (λb a7=>a7) D0 (λp hp=>by cases hp) (λb a7=>a7.elim (λe=>by rw[e];exact Nat.lt_of_lt_of_le bQ aU.size) (λe=>by cases e));clear D0 hD bh;go_enter Tryz.func92,Tryz.ntmps92;go_wp2_with fail;rw[<-ar]
 try rw[<-bn.out]
 clear ar;go_fit op;clear op;rintro e w1 ⟨g,rr,rfl,hg,L1,G1⟩;obtain⟨L,hL⟩:∃L:cc,L=⟨g,q,rr,none⟩:=⟨_,rfl⟩;rw[<-hL]at L1 G1;have aR:L.g=g:=by rw[hL]
 have aQ:L.q=q:=by rw[hL]
 have ax:aw (λb=>b=q) w w1:=(aw.ao aU _).trans (aw.g5 G1) (λb _ e=>e.elim id (λe=>by cases e));have ae:∀b,L.bE b->b=q\/w0.heap.size<=b:=λb a7=>by
  by_cases bA:b<w0.heap.size
  ·exact .inl ((G1.only b bA a7).elim id (λe=>by cases e))
  ·exact .inr (by omega)
 have bz:=(aw.g5 G1).aW ay (λe=>by have:=bn.out;rcases e with e | e;(omega);(cases e));have M1:=L1.bare (S':=λ_=>True) (λ_ _=>trivial);have rc:=kC (λ_=>True) L [] _ room w1 M1 (by simp);rw[aR]at rc;have aN:=G1.size;clear L1 G1;go_wp2_with fail;go_fit rc;clear rc;rintro e w2 ⟨v2,rfl,O2,b2⟩;obtain⟨A2,aZ,c2,rfl,aO,aT⟩:=O2.form;have aG:aZ=0:=aO.out;subst aG;have al:=s9 (λ_=>False) A2 0 c2 [] w2 rfl (by omega) (SliceAt.nil _ _ _ _) trivial;go_wp2_with fail;go_fit al;clear al;rintro e w3 ⟨vL,vP,rfl,pr,b3⟩;obtain⟨A8,bK,c8,rfl,aD,az⟩:=pr.L.form;obtain⟨A9,n9,c9,rfl,bF,cb⟩:=pr.P.form;have aH:bK=0:=aD.out;have aK:n9=0:=bF.out;subst aH aK;rw[show(a4.zero.run []).aq=0 from rfl];have M:=b2.trans (b3.mono b2.size);have b0:=bz.below M bz.lt;have M3:=M1.below M;obtain⟨w5,a8⟩:=am (w3.alloc (.cells (bT 1 A8 0 c8 A9 0 c9) 49));have cT:ai w5 w3 49 (bT 1 A8 0 c8 A9 0 c9):=by rw[a8];exact ai.made _ _ _
 have bS:=aV a8;obtain⟨tb,bg⟩:=am w3.heap.size;rw[<-bg]at cT;have ch:=Lib.hid bg;clear pr O2 aO aT aD bF az cb bg;go_wp2_with fail;rw[<-a8]
 try rw[<-ch.out]
 clear a8;have aJ:=b0.lt;have aF:=b0.below bS b0.lt;have m3:=M3.lt;have M5:=M3.below bS;have ah:Below w1 w1 w5:=M.trans (bS.mono M.size);have aB:aw (λb=>b=q) w w5:=ax.trans (aw.ao ah λ_=>False) (λ_ _ h=>h.elim);have aE:=aF.lt;have aL:=aB.size;have rl:=oU 1 A8 A9 c8 c9 w5 (by omega) (by omega);go_fit rl;clear rl;rintro e w6 ⟨v6,rfl,O6,b6⟩;obtain⟨A6,n6,bX,rfl,ca,cC⟩:=O6.form;have de:=cT.below b6 cT.lt;have bP:=aF.below b6 aF.lt;have m5:=M5.lt;have M6:=(M5.bare (S':=λb=>b<w5.heap.size) m5).below b6;have fl:=iQ 100 [.aq 1] (λr hr=>by rw[List.mem_singleton.1 hr,lr];decide);rw[hL]at M6;have aC:=qg (λb=>b<w5.heap.size) g q rr none [] [bG.enc (.aq 1)] _ room A6 n6 bX w6 M6 (λb a7=>Nat.lt_of_lt_of_le a7 b6.size) ca.out (by rw[ca.out];simp) (O6.slice (λb a7=>a7) (λb a7=>a7)) (λp hp=>by rw[List.mem_singleton.1 hp,lr];decide) (Nat.le_trans fl (by simp;omega));have av:n6=1:=ca.out;rw[av]at aC;have m1:=M1.lt;clear M6 fl O6 M5 M3 M1 ca;go_wp2_with fail;go_fit aC;clear aC;rintro e w7 ⟨rfl,a3,aS,L7,G7⟩;have bj:=ay.lt;have au:∀b,cc.bE ⟨g,q,a3,aS⟩ b->b=q\/(w0.heap.size<=b/\b≠tb):=λb a7=>by
  by_cases bA:b<w6.heap.size
  ·have h0:L.bE b:=(by rw[hL];exact G7.only b bA a7);have h2:=m1 b h0;have:=ch.out;have:=M.size;rcases ae b h0 with h1 | h1
   ·exact .inl h1
   ·exact .inr ⟨h1,by omega⟩
  ·have:=de.lt;have:=b6.size;have:=ah.size;have:=ax.size;have:=aN;exact .inr ⟨by omega,by omega⟩
 have t67:aw (cc.bE ⟨g,q,rr,none⟩) w6 w7:=aw.g5 G7;have fo:∀b,cc.bE ⟨g,q,rr,none⟩ b->L.bE b:=λb a7=>by rw[hL];exact a7
 have aX:q≠tb:=by have:=ch.out;have:=M.size;have:=ax.size;omega
 have bv:q≠rb:=by have:=bn.out;omega
 have dD:=t67.aW de (λe=>by have h1:=m1 _ (fo _ e);have:=ch.out;have:=M.size;omega);have ck:=t67.aW bP (λe=>by rcases ae _ (fo _ e)with h1 | h1;exact bv h1.symm;omega);have a5:aw (λb=>b=q) w w7:=(aB.trans (aw.ao b6 λ_=>False) (λ_ _ h=>h.elim)).trans t67 (λb a7 e=>by
  rcases ae b (fo b e)with h1 | h1
  ·exact h1
  ·have:=aU.size;omega)
 have cK:ai w7.drew tb 49 _:=dD;have aA:ai w7.drew rb 49 _:=ck;have aM:b8 w7.drew (iR (λb=>b<w5.heap.size) (cc.bE ⟨g,q,a3,aS⟩)) ⟨g,q,a3,aS⟩ [bG.enc (.aq 1)] _ room:=L7.below ⟨rfl,rfl,rfl,Nat.le_refl _,λ_ _=>rfl⟩;clear ae m5 m1 fo G7 t67 ax aB de bP aF cT aJ m3;go_wp2_with fail;refine wp_region_held_drew (S:=(λw'=>w'.cell? (aj tb)=some (I ak 1)/\w'.cell? ⟨tb,1,none⟩=some (Y A8 0 c8)/\w'.cell? ⟨tb,2,none⟩=some (Y A9 0 c9)/\w'.cell? ⟨tb,3,none⟩=some (aa))) (by kernel_rfl) (⟨cK.cell 0,cK.cell 1,cK.cell 2,cK.cell 3⟩) (λJ=>?_);refine tk 0 J ?_;refine tk 1 J ?_;refine tk 2 J ?_;refine aP 3 (λK ad=>?_);clear J;refine bH 49 (.tmp 3) (.tmp 50) rfl rb (bT 1 A8 0 c8 A9 0 c9) rfl rfl 49 _ aA (by kernel_rfl) rfl (by kernel_rfl) ?_;intro w8 cv cP s8;have af:rb≠tb:=by have:=ch.out;have:=bn.out;have:=M.size;have:=bj;have:=a5.size;omega
 have dd:=cK.grown cP (λe=>by have e:=Option.some.inj e;exact af e.symm);refine ad.out _ _ (⟨dd.cell 0,dd.cell 1,dd.cell 2,dd.cell 3⟩) (λJ=>?_);clear ad K;refine tk 4 J ?_;refine cB ?_ _;clear J;go_wp2_with fail;refine bodyPost_ret (qI rfl _ _ rb 49 _ (0,0) _ rfl cv Tryz.underlying49 rfl (by kernel_rfl)) rfl ?_;have t78:aw (λb=>b=rb) w7.drew w8:=aw.bN cP (λb a7=>(Option.some.inj a7).symm);have L8:=aM.ba t78 (S':=λb=>b<w.heap.size\/cc.bE ⟨g,q,a3,aS⟩ b) (λb _ e=>.inl (by have e:b=rb:=e;rw[e];exact aE)) (λb a7 e=>by have e:b=rb:=e;rcases au b a7 with h1 | h1;exact bv (h1.symm.trans e);omega) (λb a7 e=>e.elim (λe=>.inl (by have:=aL;omega)) .inr) (λb a7=>.inr a7);exact⟨⟨g,q,a3,aS⟩,A8,A9,c8,c9,rfl,rfl,L8,a5.trans (⟨t78.os,t78.tape,t78.output,t78.size,t78.aI⟩:aw (λb=>b=rb) w7 w8) (λb a7 e=>by have e:b=rb:=e;have:=bn.out;omega),λb a7=>(au b a7).imp id (λh=>Nat.le_trans aU.size h.1)⟩
def df(l:List Int):List Value:=l.map λk=>.int .i64 k
theorem eF(l:List Int):(df l).length=l.length:=by simp[df]
theorem iD(l:List Int):∀u∈df l,u.oneCell'=true:=by
 intro u hu;simp only[df,List.mem_map]at hu;obtain⟨k,_,rfl⟩:=hu;rfl
theorem ke(l:List Int)(j:Nat)(h:j<l.length):(df l)[j]? =some (I af l[j]):=by simp[df,h]
def ga(n:Nat)(p:Nat->Nat):List Int:=(List.range n).map λk=>if k=0 then -1 else(p k:Int)
theorem dH(n:Nat)(p:Nat->Nat):(ga n p).length=n:=by simp[ga]
theorem j7(n:Nat)(p:Nat->Nat)(k:Nat)(h:k<n):(ga n p)[k]'(by rw[dH];exact h)=if k=0 then -1 else(p k:Int):=by simp[ga]
theorem o0{w:World}{B n:Nat}{A:Option Addr}{p:Nat->Nat}(h:Tr.c6 w B A n p):Src w A (df (ga n p)):=by
 obtain⟨h1,h2,hg,b,off,hA,hB,h0,hc⟩:=h;refine .inr ⟨b,off,hA,λj u hu=>?_⟩;have hj:j<n:=by
  have:=(List.getElem?_eq_some_iff.1 hu).1
  rwa [eF,dH]at this
 rw[ke _ _ (by rw[dH];exact hj),j7 n p j hj]at hu;injection hu with hu;subst hu;by_cases e:j=0
 ·subst e;exact h0
 ·rw[if_neg e];exact hc j (by omega) hj
theorem pO{w:World}{base n c:Nat}{A:Option Addr}{p:Nat->Nat}(h1:1<=n)(h2:n<=16)(hg:Tr.Good p n)(h:w.ownsRow base 3 1 (Y A n c) n (df (ga n p))):Tr.c6 w w A n p:=by
 have hL:=a6.eu (S:=λ_=>False) h (λb h=>h.elim);obtain⟨b,off,hA,a7,_,hc⟩:=hL.open_ (by rw[eF,dH];omega);refine⟨h1,h2,hg,b,off,hA,a7,?_,λk k1 k2=>?_⟩
 ·refine(hc 0 (ag (-1)) ?_);rw[ke _ _ (by rw[dH];omega),j7 n p 0 (by omega)];rfl
 ·refine hc k (ag (p k)) ?_;rw[ke _ _ (by rw[dH];exact k2),j7 n p k k2,if_neg (by omega)]
theorem n4{w:World}{S:Nat->Prop}:∀ (l:List Nat) (us:List (List Value)),us.length=l.length->(∀ (i:Nat) (u:List Value) (a:Nat),us[i]? =some u->l[i]? =some a->b5.R w S u a)->us.flatten=df (l.map λk:Nat=>(k:Int))
 | [],us,h,_=>by rw[List.eq_nil_of_length_eq_zero h];rfl
 | x::l,[],h,_=>by simp at h
 | x::l,u::us,h,bi=>by
  have hx:u=[I af x]:=bi 0 u x rfl rfl;rw[List.flatten_cons,hx,n4 l us (by simpa using h) (λi u a hu ha=>bi (i+1) u a (by simpa using hu) (by simpa using ha))];rfl
theorem ng{w:World}{S:Nat->Prop}{A:Option Addr}{l:List Nat}(h:SliceAt b5 w S A l):Src w A (df (l.map λk:Nat=>(k:Int))):=by
 obtain⟨us,h1,h2,a1,h4,bi⟩:=h.src;rw[<-n4 l us a1 bi];exact h1
theorem nn{w:World}{base c:Nat}{A:Option Addr}{l:List Nat}{S:Nat->Prop}(h:w.ownsRow base 3 1 (Y A l.length c) l.length (df (l.map λk:Nat=>(k:Int))))(hS:∀b,(Value.slice A l.length c).ownBlock=some b->¬S b):SliceAt b5 w S A l:=by
 have aL:df (l.map λk:Nat=>(k:Int))=Tr.fl l:=by
  unfold df Tr.fl;rw[List.map_map];rfl
 rw[aL]at h;exact(py (S:=S) h).vK (λb _ e=>e) hS
theorem Ay(pb k n c:Nat)(A:Option Addr)(w:World)(bv:w.cell? (aj pb)=some (Y A n c))(hk:k<n):
 Calls Tryz.prog 91 #[ag k,aj pb] w λe w'=>e=.returned (.bool true)/\w=w':=by
 have g1:decide ((0:Int)<=(k:Int))=true:=decide_eq_true (by omega);have bA:(k:Int)<(n:Int):=by omega
 clear hk;go_enter Tryz.func91,Tryz.ntmps91;go_wp2;go_ret;exact⟨rfl,rfl⟩
theorem lz{w':World}{base n c:Nat}{A:Option Addr}{xs:List Value}(h:w'.ownsRow base 3 1 (Y A n c) n xs):dz (Y A n c)=(Value.slice A n c).ownBlock:=by
 rcases h.2 with⟨hv,_⟩ | ⟨g,cap,cur,hv,_⟩
 ·rw[hv];rfl
 ·rw[hv];rfl
theorem sN{w w':World}{base n c:Nat}{A:Option Addr}{xs:List Value}(h:w'.ownsRow base 3 1 (Y A n c) n xs)(ah:(Value.slice A n c).ownBlock=aa.ownBlock\/(Value.slice A n c).ownBlock=some w.heap.size):∀b,dz (Y A n c)=some b->w.heap.size<=b/\b<w'.heap.size:=by
 intro b a7;have e:dz (Y A n c)=(Value.slice A n c).ownBlock:=by
  rcases h.2 with⟨hv,_⟩ | ⟨g,cap,cur,hv,_⟩
  ·rw[hv];rfl
  ·rw[hv];rfl
 rw[e]at a7;have h2:=(h.lt b a7).2;rcases ah with ah | ah
 ·rw[ah]at a7;cases a7
 ·rw[ah]at a7;injection a7 with a7;omega
theorem x2(me:Int)(A:Option Addr)(n c:Nat)(A2:Option Addr)(aZ c2 g:Nat)(A8 A9:Option Addr)(c8 c9 m1 m2:Nat):(Program.built Tryz.prog 130 [(0,I af me),(1,Y A n c),(2,Y A2 aZ c2),(3,.pointer (aj g)),(4,bT 1 A8 0 c8 A9 0 c9),(7,.map (some m1)),(9,.map (some m2))]).map Array.toList=some [I af me,Y A n c,Y A2 aZ c2,.pointer (aj g),I ak 1,Y A8 0 c8,Y A9 0 c9,aa,aa,I ak 0,.map (some m1),aa,.map (some m2),aa]:=by kernel_rfl
theorem xU(me:Int)(A:Option Addr)(n c:Nat)(A2:Option Addr)(aZ c2 g:Nat)(A8 A9:Option Addr)(c8 c9 m1 m2:Nat)(w:World):(Instr.build 130 #[(0,I af me),(1,Y A n c),(2,Y A2 aZ c2),(3,.pointer (aj g)),(4,bT 1 A8 0 c8 A9 0 c9),(7,.map (some m1)),(9,.map (some m2))]).run Tryz.prog w=.ok (aE #[ag me,Y A n c,Y A2 aZ c2,aj g,av 1,Y A8 0 c8,Y A9 0 c9,aa,aa,av 0,.map (some m1),aa,.map (some m2),aa]) w:=by
 obtain⟨cs,h1,h2⟩:=Option.map_eq_some_iff.1 (x2 me A n c A2 aZ c2 g A8 A9 c8 c9 m1 m2);rw[run_build w 130 _ cs h1];rw[show cs=#[I af me,Y A n c,Y A2 aZ c2,.pointer (aj g),I ak 1,Y A8 0 c8,Y A9 0 c9,aa,aa,I ak 0,.map (some m1),aa,.map (some m2),aa] from Array.toList_inj.1 h2]
def aC.new:aC:=⟨[],[],[],0,λ_=>none,[],[.aq 1]⟩
theorem vV{P:Prop}(h:P:=by
 intro A' c' w6 ho hg ah;rw[Nat.zero_add]at ho ah ⊢;rw[List.nil_append]at ho;exact ad _ w6 ⟨A',c',rfl,ho⟩ ((Below.refl w5 w5).grown hg (Nat.le_refl _) (λk hk=>by cases hk)) (sN ho ah)
 ):P:=h
theorem xc(z:aM)(AP AH:Option Addr)(cP cH q:Nat)(w:World)(hz:z.ok)(ht:eS w (λb=>b=q) AP z.n z.p)(hh:SliceAt b5 w (λb=>b=q) AH z.homes)(hD:Dk.cY w q 0 none [] 0 z.room)(hr:200<=z.room):
 Calls Tryz.prog 45 #[ag z.me,Y AP z.n cP,Y AH z.homes.length cH,aj q] w λe w'=>∃a:b4,e=.returned (.tuple #[aj a.bb,ag 0])/\a.L.q=q/\bk w' (λb=>b=q\/(w.heap.size<=b/\b<w'.heap.size)) z aC.new a/\aw (λb=>b=q) w w':=by
 have bQ:q<w.heap.size:=by
  obtain⟨A,c,_,a7,_⟩:=hD;exact ai.lt (w:=w) a7
 have aL:=hz.n;have hm:=hz.me;have bm:=hz.h1;have bj:=hz.h2;have aX:=hz.room;obtain⟨nh,M⟩:=am z.homes.length;have aA:=Lib.hid M;rw[<-M]at bm bj ⊢;obtain⟨w0,ar⟩:=am (w.alloc (.cells #[Y AP z.n cP] 22));have aS:ai w0 w 22 #[Y AP z.n cP]:=by rw[ar];exact ai.made _ _ _
 have aU:=aV ar;obtain⟨pb,bl⟩:=am w.heap.size;rw[<-bl]at aS;have aK:=Lib.hid bl;have T0:Tr.c6 w0 w AP z.n z.p:=ht.1.below aU;have P0:=ht.goes (.ao aU (λb=>b=q));have ck:=Tr.jJ AP cP z.n w z.p w0 T0;have S0:=hh.below aU;have D0:=cF (F:=λ_=>False) (F':=λ_=>False) hD (Goes.ao aU _) (λh=>h) (λ_ _ h=>h);have br:q<w0.heap.size:=Nat.lt_of_lt_of_le bQ aU.size;have HH:=ja hz T0 D0 hr P0;have aJ:∀k,k<z.n->Calls Tryz.prog 91 #[ag k,aj pb] w0 λe w'=>e=.returned (.bool true)/\w0=w':=λk hk=>Ay pb k z.n cP AP w0 (by simpa using aS.cell 0) hk;have IS:=Lib.hid aJ;have im:=aJ z.me hm;have p0:=aS.cell 0;simp at p0;have bp:decide ((nh:Int)<1)=false:=decide_eq_false (by omega);have bi:decide ((32:Int)<nh)=false:=decide_eq_false (by omega);have bn:¬ ((nh:Int)<1):=by omega
 have bo:¬ ((32:Int)<nh):=by omega
 clear bl ht hh hD hr hz T0 D0 P0 aJ M;go_enter Tryz.func45,Tryz.ntmps45;go_wp2_with fail;rw[<-ar]
 try rw[<-aK.out]
 clear ar;go_fit ck;clear ck;rintro e w1 ⟨rfl,rfl⟩;go_wp2_with fail;go_fit im;clear im;rintro e w1 ⟨rfl,rfl⟩;go_wp2_with fail
 go_loopw [43] (λi_ wr=>∃i:Nat,i_=I af i/\i<=nh/\wr=w0) (λi _=>nh- (intOf i).toNat)
 case atStart=>exact⟨0,rfl,by omega,rfl⟩
 case round=>
  obtain⟨i,rfl,hi,rfl⟩:=hrel;by_cases bA:i<nh
  ·have bu:i<z.homes.length:=(by have:=aA.out;omega);have bE:(i:Int)<(nh:Int):=(by omega);obtain⟨b,off,u,rfl,bV,b8,bx,hcell,hu⟩:=S0.at_ bu (by decide);have aR:u=[I af (z.homes[i]:Nat)]:=hu;rw[aR]at hcell;have d0:wr.cell? ⟨b,off+i,none⟩=some (I af (z.homes[i]:Nat)):=(by simpa[b5]using hcell 0 _ rfl);have a2:=HH.out.1.hh _ (List.getElem_mem bu);obtain⟨k,hk⟩:=am (z.homes[i]);rw[<-hk]at d0 a2;have im:=IS.out k a2;clear hcell bx hu aR hk a2;go_wp2_with fail;go_fit im;clear im d0;rintro e w1 ⟨rfl,rfl⟩;go_wp2
   go_round
   case rel=>exact⟨i+1,by go_num,by omega,trivial⟩
   case measure=>simp[intOf];omega
  ·obtain rfl:i=nh:=(by omega);have a0:=uD q z.room wr HH.out.2.2.1 HH.out.2.2.2.1;go_wp2_with fail;go_fit a0;clear a0;rintro e w2 ⟨L,A8,A9,c8,c9,rfl,aQ,hL,t2,aE⟩;have bh:=aS.lt;have aD:pb≠q:=(by have:=aK.out;omega);have bP:=t2.aW aS aD;obtain⟨w4,bd⟩:=am (w2.alloc (.cells (bT 1 A8 0 c8 A9 0 c9) 49));have a6:ai w4 w2 49 (bT 1 A8 0 c8 A9 0 c9):=(by rw[bd];exact ai.made _ _ _);have bK:=aV bd;obtain⟨tb,bg⟩:=am w2.heap.size;rw[<-bg]at a6;have ch:=Lib.hid bg;have b7:=bP.below bK bP.lt;clear bg;go_wp2_with fail;rw[<-bd]
   try rw[<-ch.out]
   clear bd;have aF:ai w4.drew pb 22 _:=b7;have cK:ai w4.drew tb 49 _:=a6;refine wp_region_held_drew (S:=(λw'=>w'.cell? (aj pb)=some (Y AP z.n cP)/\w'.cell? (aj tb)=some (I ak 1)/\w'.cell? ⟨tb,1,none⟩=some (Y A8 0 c8)/\w'.cell? ⟨tb,2,none⟩=some (Y A9 0 c9)/\w'.cell? ⟨tb,3,none⟩=some (aa))) (by kernel_rfl) (⟨aF.cell 0,cK.cell 0,cK.cell 1,cK.cell 2,cK.cell 3⟩) (λJ=>?_);refine tk 0 J ?_;refine tk 1 J ?_;refine tk 3 J ?_;refine tk 5 J ?_;refine tk 6 J ?_;obtain⟨i0,bM,bL,bJ,bR⟩:=info_parts Tr.Tryz.qe;have bs:Below w4 w4 w4.drew:=⟨rfl,rfl,rfl,Nat.le_refl _,λ_ _=>rfl⟩;have gq:Goes (λb=>b=q) wr (λb=>b=q) w4.drew:=⟨bK.os.trans t2.os,bK.tape.trans t2.tape,bK.output.trans t2.output,Nat.le_trans t2.size bK.size,λb a7 aL=>(bK.block b (Nat.lt_of_lt_of_le a7 t2.size)).trans (t2.aI b a7 aL),λ_ _ e=>e⟩;have aO:Src w4.drew AP (df (ga z.n z.p)):=o0 (HH.out.2.2.2.2.goes gq).1;have aH:Src w4.drew AH (df (z.homes.map λk:Nat=>(k:Int))):=ng (S0.goes gq);have ax:=HH.out.2.1.2.2.1;have a8:=HH.out.2.1.1;have cv:∀w',Below w4.drew.heap.size w4.drew w'->w'.cell? (aj pb)=some (Y AP z.n cP)/\w'.cell? (aj tb)=some (I ak 1)/\w'.cell? ⟨tb,1,none⟩=some (Y A8 0 c8)/\w'.cell? ⟨tb,2,none⟩=some (Y A9 0 c9)/\w'.cell? ⟨tb,3,none⟩=some (aa):=λw' a7=>by
    have h1:=aF.below a7 aF.lt;have h2:=cK.below a7 cK.lt;exact⟨h1.cell 0,h2.cell 0,h2.cell 1,h2.cell 2,h2.cell 3⟩
   have aZ:=Lib.hid cv;have bF:=λ(A A2:Option Addr) (c c2 m1 m2:Nat) w=>xU z.me A z.n c A2 i c2 L.g A8 A9 c8 c9 m1 m2 w;refine jo 4 4 (λm=>[2,4,7,8].getD m 0) (λm=>[63,65,68,69].getD m 0) (λb=>#[true,true,b 0,true,b 1,true,true,b 2,b 3,false,false,false,false]) (λm v w=>if m=0 then ∃A c,v=Y A z.n c/\w.ownsRow w4 3 1 (Y A z.n c) z.n (df (ga z.n z.p))else if m=1 then ∃A c,v=Y A i c/\w.ownsRow w4 3 1 (Y A i c) i (df (z.homes.map λk:Nat=>(k:Int)))else ∃B,v=.map (some B)/\w.heap[B]? =some (.map #[] 0)) (by kernel_rfl) (by kernel_rfl) ?_ (by decide) ?_ ?_ ?_ ?_ cv ?_ ?_
   ·intro m m' h1 h2 ay;obtain rfl | rfl | rfl | rfl:m=0\/m=1\/m=2\/m=3:=by omega
    all_goals (obtain rfl | rfl | rfl | rfl:m'=0\/m'=1\/m'=2\/m'=3:=by omega)
    all_goals first | (exact absurd rfl ay) | decide
   ·intro b;show okB (Region.ready .any _ #[true,true,b 0,true,b 1,true,true,b 2,b 3,false,false,false,false]) _ [b 0,b 1,b 2,b 3]=true;generalize b 0=x0;generalize b 1=x1;generalize b 2=x2;generalize b 3=x3;cases x0<;>cases x1<;>cases x2<;>cases x3<;>kernel_rfl
   ·intro b m hm;obtain rfl | rfl | rfl | rfl:m=0\/m=1\/m=2\/m=3:=by omega
    all_goals rfl
   ·intro b b' h;show#[true,true,b 0,true,b 1,true,true,b 2,b 3,false,false,false,false]=#[true,true,b' 0,true,b' 1,true,true,b' 2,b' 3,false,false,false,false];rw[h 0 (by omega),h 1 (by omega),h 2 (by omega),h 3 (by omega)]
   ·intro m hm v w5 w6 hp a7;obtain rfl | rfl | a9:m=0\/m=1\/2<=m:=by omega
    ·obtain⟨A,c,hv,ho⟩:=hp;exact⟨A,c,hv,aT ho a7⟩
    ·obtain⟨A,c,hv,ho⟩:=hp;exact⟨A,c,hv,aT ho a7⟩
    ·rw[if_neg (by omega),if_neg (by omega)]at hp ⊢;obtain⟨B,hv,ho⟩:=hp;exact⟨B,hv,(a7.block B (Array.getElem?_eq_some_iff.1 ho).1).trans ho⟩
   ·intro m hm;obtain rfl | rfl | rfl | rfl:m=0\/m=1\/m=2\/m=3:=by omega
    ·refine⟨_,rfl,λf w5 K' a7 ad=>ej w5 rfl (.const aa) (.tmp 62) 22 rfl w4 1 3 i0 (ag 0) 8 Tryz.underlying22 bM bL bJ bR rfl (by decide) aa 0 [] rfl (World.ownsRow_nil _ _ _ _) AP z.n cP (df (ga z.n z.p)) rfl (by rw[eF,dH,Nat.mul_one]) (aO.below a7) (iD _) (by unfold maxLen;omega) (by omega) a7.size ?_⟩;exact vV
    ·refine⟨_,rfl,λf w5 K' a7 ad=>ej w5 rfl (.const aa) (.tmp 64) 22 rfl w4 1 3 i0 (ag 0) 8 Tryz.underlying22 bM bL bJ bR rfl (by decide) aa 0 [] rfl (World.ownsRow_nil _ _ _ _) AH i cH (df (z.homes.map λk:Nat=>(k:Int))) rfl (by rw[eF,List.length_map,Nat.mul_one,aA.out]) (aH.below a7) (iD _) (by unfold maxLen;omega) (by omega) a7.size ?_⟩;exact vV
    ·exact⟨_,rfl,λf w5 K' a7 ad=>hV rfl 127 rfl (ad _ _ ⟨w5.heap.size,rfl,heap_alloc_new w5 _⟩ ((Below.refl _ _).alloc (Nat.le_refl _) _) (λb h=>by have h:=Option.some.inj h;simp;omega))⟩
    ·exact⟨_,rfl,λf w5 K' a7 ad=>hV rfl 128 rfl (ad _ _ ⟨w5.heap.size,rfl,heap_alloc_new w5 _⟩ ((Below.refl _ _).alloc (Nat.le_refl _) _) (λb h=>by have h:=Option.some.inj h;simp;omega))⟩
   ·intro f w5 hp bS au aq fuel bf;obtain⟨A0,m0,aB,cl⟩:=hp 0 (by omega);obtain⟨A1,m1,e1,bc⟩:=hp 1 (by omega);obtain⟨mr,a5,o2⟩:=hp 2 (by omega);obtain⟨mt,e3,o3⟩:=hp 3 (by omega);have kR:=aq 0 1 (by omega) (by omega) (by omega);have jP:=aq 0 2 (by omega) (by omega) (by omega);have az:=aq 0 3 (by omega) (by omega) (by omega);have d12:=aq 1 2 (by omega) (by omega) (by omega);have d13:=aq 1 3 (by omega) (by omega) (by omega);have d23:=aq 2 3 (by omega) (by omega) (by omega);have l0:=au 0 (by omega);have l1:=au 1 (by omega);have l2:=au 2 (by omega);have l3:=au 3 (by omega);rw[aB]at kR jP az l0;rw[e1]at kR d12 d13 l1;rw[a5]at jP d12 d23 l2;rw[e3]at az d13 d23 l3;obtain⟨fuel,rfl⟩:∃q,fuel=q+4:=⟨fuel-4,by omega⟩;simp only[cr,aB,e1,a5,e3,Act.put,List.getD_cons_zero,List.getD_cons_succ,List.setIfInBounds_toArray,List.set_cons_zero,List.set_cons_succ];have J:=aZ.out w5 bS;have a3:=y1 kR jP az d12 d13 d23 l0 l1 l2 l3 cl bc o2 o3;clear kR jP az d12 d13 d23 l0 l1 l2 l3 cl bc o2 o3 aB e1 a5 e3 hp au aq bf;refine tk 9 J ?_;refine aP 10 (λK ad=>?_);clear J;go_simp;obtain⟨w6,aY⟩:=am (w5.alloc (.cells #[ag z.me,Y A0 z.n m0,Y A1 i m1,aj L.g,av 1,Y A8 0 c8,Y A9 0 c9,aa,aa,av 0,.map (some mr),aa,.map (some mt),aa] 130));rw[<-aY];have bZ:ai w6 w5 130 #[ag z.me,Y A0 z.n m0,Y A1 i m1,aj L.g,av 1,Y A8 0 c8,Y A9 0 c9,aa,aa,av 0,.map (some mr),aa,.map (some mt),aa]:=(by rw[aY];exact ai.made _ _ _);have b6:=aV aY;clear aY;refine ad.out _ _ (aZ.out w6 (bS.trans (b6.mono bS.size))) (λJ=>?_);clear ad K;refine tk 11 J ?_;refine tk 12 J ?_;refine cB ?_ _;clear J;go_wp2
    try rw[Exit.noGoto_ret]
    go_ret2;obtain⟨kR,jP,az,d12,d13,d23,l0,l1,l2,l3,cl,bc,o2,o3⟩:=a3.out;have s0:=aU.size;have s2:=t2.size;have s4:=bK.size;have s5:w4.heap.size<=w5.heap.size:=bS.size;have s6:=bZ.lt;have aN:Below w4 w4 w5:=⟨bS.os,bS.tape,bS.output,bS.size,bS.block⟩;have bq:Below w2 w2 w6:=(bK.trans (aN.mono bK.size)).trans (b6.mono (Nat.le_trans bK.size aN.size));have l0:∀b,dz (Y A0 z.n m0)=some b->w4.heap.size<=b/\b<w5.heap.size:=l0;have l1:∀b,dz (Y A1 i m1)=some b->w4.heap.size<=b/\b<w5.heap.size:=l1;have l2:w4.heap.size<=mr/\mr<w5.heap.size:=l2 mr rfl;have l3:w4.heap.size<=mt/\mt<w5.heap.size:=l3 mt rfl;have lf:=hL.lt;have r0:=aT cl b6;have r1:=aT bc b6;have a4:w6.heap[mr]? =some (.map #[] 0):=(b6.block mr l2.2).trans o2;have ae:w6.heap[mt]? =some (.map #[] 0):=(b6.block mt l3.2).trans o3;have dA:∀b,w4.heap.size<=b->b<w5.heap.size->b≠mr->b≠mt->¬bO (λb=>b=q\/(w.heap.size<=b/\b<w6.heap.size)) ⟨w5.heap.size,mr,mt,L⟩ b:=by
     intro b h1 h2 a1 h4 e;rcases e with e | e | e | e | e
     ·exact e (.inr ⟨by omega,by omega⟩)
     ·have e:b=w5.heap.size:=e;omega
     ·exact a1 e
     ·exact h4 e
     ·have:=lf b e;omega
    refine⟨⟨w5.heap.size,mr,mt,L⟩,rfl,aQ,⟨⟨⟨A0,m0,A1,m1,A8,c8,A9,c9,none,0,none,0⟩,?_,⟨⟨pO a8 aL ax r0,λb off e=>?_⟩,?_,SliceAt.nil _ _ _ _,Nat.zero_le _,SliceAt.nil _ _ _ _,SliceAt.nil _ _ _ _,SliceAt.nil _ _ _ _,Nat.zero_le _,Nat.zero_le _⟩⟩,⟨λ_=>none,⟨#[],0,a4,λe he=>by simp at he,by simp,λa v=>by simp⟩,λk=>⟨λ_=>rfl,λm h=>by cases h⟩⟩,ae,?_,⟨?_,?_,?_,?_,?_,?_⟩,?_,?_⟩,?_⟩
    ·have:=bZ;rw[aA.out]at this;exact this
    ·have e:A0=some ⟨b,off,none⟩:=e;have a7:=l0 b (by rw[e];rfl);exact dA b a7.1 a7.2 (λa5=>jP b (by rw[e];rfl) (by rw[a5];rfl)) (λa5=>az b (by rw[e];rfl) (by rw[a5];rfl))
    ·rw[aA.out]at r1;refine nn r1 (λb a7=>?_);rw[<-lz r1,<-aA.out]at a7;have aG:=l1 b a7;exact dA b aG.1 aG.2 (λa5=>d12 b a7 (by rw[a5];rfl)) (λa5=>d13 b a7 (by rw[a5];rfl))
    ·refine hL.ba (aw.ao bq λ_=>False) (λ_ _ e=>e.elim) (λ_ _ e=>e) (λb a7 e=>?_) (λb a7=>.inr (.inr (.inr (.inr a7))));rcases e with e | e | e | e | e
     ·by_cases hw:b<w.heap.size
      ·exact .inl (by omega)
      ·exact absurd (.inr ⟨by omega,by omega⟩) e
     ·have e:b=w5.heap.size:=e;omega
     ·have e:b=mr:=e;omega
     ·have e:b=mt:=e;omega
     ·exact .inr e
    ·show w5.heap.size≠mr;omega
    ·show w5.heap.size≠mt;omega
    ·intro e;have:=lf _ e;have:w5.heap.size<w2.heap.size:=this;omega
    ·intro e;have e:mr=mt:=e;exact d23 mr rfl (by rw[e];rfl)
    ·intro e;have:=lf _ e;have:mr<w2.heap.size:=this;omega
    ·intro e;have:=lf _ e;have:mt<w2.heap.size:=this;omega
    ·intro b e;rcases e with e | e | e | e
     ·have e:b=w5.heap.size:=e;exact .inr ⟨by omega,by omega⟩
     ·have e:b=mr:=e;exact .inr ⟨by omega,by omega⟩
     ·have e:b=mt:=e;exact .inr ⟨by omega,by omega⟩
     ·have:=lf b e;rcases aE b e with h | h
      ·exact .inl h
      ·exact .inr ⟨by omega,by omega⟩
    ·intro b e;rcases e with e | e
     ·rw[e];omega
     ·exact e.2
    ·exact((aw.ao aU (λb=>b=q)).trans t2 (λ_ _ e=>e)).trans (aw.ao bq λ_=>False) (λ_ _ e=>e.elim)
section
open Go.RowKit Go.Conc Go.Maps
namespace Nt
section
variable {w w':World}{base qn B:Nat}{L:List cj}{Q:Nat->List cX}
theorem hT(w:World)(c cap:Nat)(buf:Array Value)(cl:Bool)(s r:Nat)(tm:Bool):aw (λb=>b=c) w (w.setChan c cap buf cl s r tm):=by
 refine⟨rfl,rfl,rfl,by simp[World.setChan],λb a7 aL=>?_⟩;simp only[World.setChan];rw[Array.getElem?_setIfInBounds_ne (λe=>aL e.symm)]
theorem xt{S:Nat->Prop}{A:Option Addr}{xs:List Value}(h:Go.Proofs.YtgblliofomgggaaGreat.a6 w S A xs):Old.a6 w w A xs:=by
 rcases h with h | ⟨b,off,hA,a7,_,hc⟩
 ·exact .inl h
 ·exact .inr ⟨b,off,hA,a7,hc⟩
theorem cA.other(h:cA w base qn B L Q){G:Nat->Prop}(t:aw G w w')(h1:¬G qn)(h2:¬G B)(a1:∀x∈L,¬G x.c)(h4:∀x∈L,∀m∈Q x.c,∀b off,m.A=some ⟨b,off,none⟩->¬G b):cA w' base qn B L Q:=by
 have bA:B<w.heap.size:=by
  obtain⟨es,h1,_⟩:=h.map;exact(Array.getElem?_eq_some_iff.1 h1).1
 refine⟨(t.aI qn h.aW.lt h1).trans h.aW,h.map.kept (t.aI B bA h2),h.fair,h.apart,h.lo,λx hx=>?_⟩;obtain⟨⟨s,r,hc⟩,hm⟩:=h.q x hx;refine⟨⟨s,r,(t.aI x.c (Array.getElem?_eq_some_iff.1 hc).1 (a1 x hx)).trans hc⟩,λm hq=>?_⟩;rcases hm m hq with e | ⟨b,off,hA,a7,hcs⟩
 ·exact .inl e
 ·refine .inr ⟨b,off,hA,Nat.lt_of_lt_of_le a7 t.size,λj u hu=>?_⟩;rw[World.cell?_of_block (w:=w) (w':=w') (a:=⟨b,off+j,none⟩) (t.aI b a7 (h4 x hx m hq b off hA))];exact hcs j u hu
end
section
variable (w:World)(qn B:Nat)(L:List cj)(Q:Nat->List cX)(h:cA w 0 qn B L Q)
include h
theorem AK(x:cj)(hx:x∈L)(A:Option Addr)(c Bb:Nat)(b:List UInt8)(hy:Old.Bytes w Bb A b)(hB:Bb<=w.heap.size)(hm:b.length<=1000000)(hq:(Q x.c).length<8):
 Calls Tryz.prog 96 #[aj qn,ag x.f,ag x.t,Y A b.length c] w λe w'=>e=.returned (ag 0)/\∃m:cX,m.l=b/\(∀g off,m.A=some ⟨g,off,none⟩->w.heap.size<=g/\g<w'.heap.size)/\
  cA w' 0 qn B L (λk=>if k=x.c then Q x.c++[m]else Q k)/\aw (λb=>b=x.c) w w':=by
 go_enter Tryz.func96,Tryz.ntmps96;go_wp2_with fail;refine(mY w 0 qn B L Q h x hx).mono ?_;rintro e w1 ⟨rfl,rfl⟩;go_wp2_with fail;refine(fo A c Bb b w hy hB (by omega)).mono ?_;rintro e w2 ⟨A2,c2,rfl,J,aG⟩;have h2:=h.below aG;obtain⟨⟨s,r,hc⟩,I⟩:=h2.q x hx;go_wp2_with fail;refine(wS x.c ((Q x.c).map cX.val) s r _ w2 hc (by rw[List.length_map];exact hq)).mono ?_;rintro e w3 ⟨rfl,rfl⟩;go_wp2;go_ret;have M:((Q x.c).map cX.val++[Value.slice A2 b.length c2]).toArray=((Q x.c++[(⟨A2,c2,b⟩:cX)]).map cX.val).toArray:=by simp[cX.val]
 obtain⟨t1,t2,t3⟩:=h2.ba hx (Q x.c++[(⟨A2,c2,b⟩:cX)]) (s+1) r (λm hm=>by
  rcases List.mem_append.1 hm with hm | hm
  ·exact I m hm
  ·rw[List.mem_singleton]at hm;subst hm;exact Old.a6.eu J)
 rw[M];refine⟨rfl,⟨A2,c2,b⟩,rfl,λg off e=>?_,t1,(aw.ao aG _).trans (hT _ _ _ _ _ _ _ _) (λ_ _ e=>e)⟩;have e:A2=some ⟨g,off,none⟩:=e;rcases J.2 with⟨hv,_⟩ | ⟨g',cap,cur,hv,hg,hh,_⟩
 ·injection hv with hv;rw[e]at hv;cases hv
 ·injection hv with hv;rw[e]at hv;injection hv with hv;injection hv with hv;have a1:=(Array.getElem?_eq_some_iff.1 hh).1;have h4:=(hT w2 x.c 8 ((Q x.c++[(⟨A2,c2,b⟩:cX)]).map cX.val).toArray false (s+1) r false).size;exact⟨by omega,by omega⟩
theorem BD(x:cj)(hx:x∈L)(m:cX)(q:List cX)(hq:Q x.c=m::q):Calls Tryz.prog 98 #[aj qn,ag x.f,ag x.t] w λe w'=>e=.returned (.tuple #[m.val,ag 0])/\
 cA w' 0 qn B L (λk=>if k=x.c then q else Q k)/\aw (λb=>b=x.c) w w':=by
 obtain⟨⟨s,r,hc⟩,I⟩:=h.q x hx;rw[hq]at hc I;have HQ:=Lib.hid hq;clear hq;go_enter Tryz.func98,Tryz.ntmps98;go_wp2_with fail;refine(mY w 0 qn B L Q h x hx).mono ?_;rintro e w1 ⟨rfl,rfl⟩;go_wp2_with fail;refine(ue x.c (q.map cX.val) m.val s r w hc).mono ?_;rintro e w1 ⟨rfl,rfl⟩;go_wp2;go_ret2;exact⟨rfl,(h.ba hx q s (r+1) (λu hu=>I u (List.mem_cons_of_mem _ hu))).1,hT _ _ _ _ _ _ _ _⟩
end
end Nt
end
end Go.Proofs.YtgblliofomgggaaGreat
