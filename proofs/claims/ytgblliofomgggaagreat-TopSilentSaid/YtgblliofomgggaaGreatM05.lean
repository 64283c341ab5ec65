import Derived.Deep.RegionHeld3
import Derived.Test.YtgblliofomgggaaGreatM01
import Derived.Test.YtgblliofomgggaaGreatM04
namespace Go.Proofs.YtgblliofomgggaaGreat
set_option maxRecDepth 100000
set_option maxHeartbeats 1000000
open Go.RowKit a7
open Go.IntKind renaming i64 -> af,u64 -> ak
open Go.Value renaming int -> I,slice -> Y,pointer -> aL,agg -> aE
structure da where
 kind:Int
 n:Int
 s:List UInt8
def da.ok(v:da):Prop:=(v.kind=1/\v.s=[])\/(v.kind=2/\v.n=0/\v.s.length<=40)\/(v.kind=3/\(v.n=0\/v.n=1)/\v.s=[])
instance (v:da):Decidable v.ok:=by unfold da.ok;exact inferInstance
def da.fits(v:da):Prop:= -9223372036854775808<=v.n/\v.n<=9223372036854775807
def str(l:List UInt8):Value:=.string ⟨l.toArray⟩
def da.cells(v:da):List Value:=[I af v.kind,I af v.n,str v.s]
def da.val(v:da):Value:=aE #[ag v.kind,ag v.n,str v.s]
def da.enc(v:da):List UInt8:=Pk.az v.kind.toNat++Pk.az (if v.kind=1 then Pk.eO v.n else v.n.toNat)++Pk.aQ v.s
theorem n2(v:da)(w:World):
 Calls Tryz.prog 175 #[v.val] w λe w'=>e=.returned (ag (if v.ok then 0 else 10))/\Below w w w':=by
 obtain⟨k,n,s⟩:=v;obtain⟨r,hr⟩:∃r:Int,r=if (⟨k,n,s⟩:da).ok then 0 else 10:=⟨_,rfl⟩;rw[<-hr];have HR:=Lib.hid hr;clear hr;unfold da.val str;go_enter Tryz.func175,Tryz.ntmps175;go_wp2
 all_goals
  go_ret;refine⟨congrArg (λx=>Ending.returned (Value.int .i64 x)) ?_,(Below.refl _ w).alloc (Nat.le_refl _) _⟩;rw[HR.out]
  first
   | (rw[if_pos];simp_all[da.ok];done)
   | (rw[if_neg];simp_all[da.ok];done)
   | (rw[if_pos];simp_all[da.ok];omega)
   | (rw[if_neg];simp_all[da.ok];omega)
theorem nC(w:World)(s:List UInt8):∃c w',(convert 9 97 (.string ⟨s.toArray⟩)).run Tryz.prog w=.ok (Y (aj w) s.length c) w'/\Src w' (aj w) (aA s)/\Below w w w':=by
 have aa:=run_bytes_of_string (P:=Tryz.prog) w 9 97 5 ⟨s.toArray⟩ Tryz.underlying9 Tryz.underlying97 Tryz.underlying5;have bJ:(⟨s.toArray⟩:ByteArray).size=s.length:=by simp[ByteArray.size]
 rw[bJ]at aa;refine⟨_,_,aa,.inr ⟨_,_,rfl,λj u hu=>?_⟩,⟨rfl,rfl,rfl,by simp[World.alloc],λb a7=>?_⟩⟩
 ·have hj:j<s.length:=by
   have:=(List.getElem?_eq_some_iff.1 hu).1
   rwa [aU]at this
  rw[Nat.zero_add];refine(cell_of_row _ w.drew.heap.size j _ _ _ (heap_alloc_new w.drew _)).trans ?_;rw[bytesRow_at _ _ j (by simpa using hj)];rw[eo s hj]at hu;simpa using hu
 ·exact Below.heap_alloc w.drew _ b a7
theorem zW(v:da)(A:Option Addr)(n c:Nat)(l:List UInt8)(w:World)(aL:l.length=n)(h:Src w A (aA l))(hm:n<=800000000)(ae:v.ok)(hf:v.fits):
 Calls Tryz.prog 280 #[Y A n c,v.val] w λe w'=>∃u,e=.returned u/\Row w' w u (l++v.enc)/\Below w w w':=by
 obtain⟨k,x,s⟩:=v;have aq:s.length<=40:=by
  rcases ae with⟨_,h⟩ | ⟨_,_,h⟩ | ⟨_,_,h⟩
  ·simp only at h;rw[h];simp
  ·exact h
  ·simp only at h;rw[h];simp
 obtain⟨y,hy,bT,bp,av⟩:∃y:Nat,y<18446744073709551616/\(if k=1 then Pk.eO x else x.toNat)=y/\(k≠1->x=(y:Int))/\(k=1\/k=2\/k=3):=by
  refine⟨_,?_,rfl,?_,?_⟩
  ·split
   ·exact Pk.kg hf
   ·rcases ae with⟨h,_⟩ | ⟨_,h,_⟩ | ⟨_,h,_⟩<;>simp only at h<;>omega
  ·intro hk;rw[if_neg hk];rcases ae with⟨h,_⟩ | ⟨_,h,_⟩ | ⟨_,h,_⟩<;>simp only at h<;>omega
  ·rcases ae with⟨h,_⟩ | ⟨h,_⟩ | ⟨h,_⟩<;>simp only at h<;>omega
 obtain⟨kn,rfl⟩:∃kn:Nat,k=kn:=⟨k.toNat,by omega⟩;have ad:(⟨(kn:Int),x,s⟩:da).enc=Pk.az kn++Pk.az y++Pk.aQ s:=by
  unfold da.enc;simp only[bT,Int.toNat_natCast]
 rw[ad];have af:=λ(w:World)=>w5 x w hf;have a0: -9223372036854775808<=x/\x<=9223372036854775807:=hf;have HY:=Lib.hid bT;have bj:∀ (w1:World),Below w w w1->Src w1 A (aA l):=λw1 a7=>by
  rcases h with h | ⟨b,off,e1,hc⟩
  ·exact .inl h
  ·exact .inr ⟨b,off,e1,λj u hu=>(a7.cell (p:=⟨b,off+j,none⟩) (World.block_lt_of_cell? w _ (hc j u hu))).trans (hc j u hu)⟩
 have ak:Below w w (w.alloc (.cells #[ag kn,ag x,.string ⟨s.toArray⟩] 57)):=(Below.refl _ _).alloc (Nat.le_refl _) _;obtain⟨w0,ar⟩:=am (w.alloc (.cells #[ag (kn:Int),ag x,.string ⟨s.toArray⟩] 57));have J:ai w0 w 57 #[ag kn,ag x,.string ⟨s.toArray⟩]:=by rw[ar];exact ai.made _ _ _
 rw[<-ar]at ak;obtain⟨cb,M⟩:=am w.heap.size;rw[<-M]at J;have aF:=Lib.hid M;have n1:=b7 A n c kn l w0 aL (by omega) (bj w0 ak) (by omega);clear ad bT ae hf h;unfold da.val str;rcases av with hk | hk
 focus
  have e1:((kn:Int)==1)=true:=(by rw[beq_iff_eq];exact hk);have au:Pk.eO x=y:=(by have:=HY.out;rw[if_pos hk]at this;exact this);have I:=af w0;rw[au]at I;have a2:kn<4:=(by omega);clear au hk bp af M;go_enter Tryz.func280,Tryz.ntmps280;go_wp2_with fail;rw[<-ar,<-aF.out];clear ar;have d0:=J.cell 0;have d1:=J.cell 1;simp at d0 d1;refine I.mono ?_;rintro e w1 ⟨rfl,rfl⟩;clear I;go_wp2_with fail
 rotate_left
 focus
  have e1:((kn:Int)==1)=false:=(by rw[beq_eq_false_iff_ne];omega);obtain rfl:x=(y:Int):=bp (by omega);have a2:kn<4:=(by omega);clear hk bp af M;go_enter Tryz.func280,Tryz.ntmps280;go_wp2_with fail;rw[<-ar,<-aF.out];clear ar;have d0:=J.cell 0;have d1:=J.cell 1;simp at d0 d1
 all_goals
  refine n1.mono ?_;clear n1;rintro e w1 ⟨u1,rfl,r1,b1⟩;obtain⟨A1,m1,c1,rfl,aK,bU⟩:=r1.open_;have ah:m1<=n+9:=(by rw[<-aK.out,List.length_append,Pk.bJ];have:=Pk.fY (n:=kn) (by omega);omega);have ao:=J.below b1 J.lt;have d2:=ao.cell 2;simp at d2;have aZ:=b7 A1 m1 c1 y (l++Pk.az kn) w1 aK.out hy r1.src.2 (by omega);have a6:=ak.trans (b1.mono ak.size);go_wp2_with fail;refine aZ.mono ?_;clear aZ;rintro e w2 ⟨u2,rfl,bf,b2⟩;obtain⟨A2,m2,c2,rfl,a9,aT⟩:=bf.open_;have aS:m2<=n+18:=(by have h1:=aK.out;rw[<-a9.out,List.length_append,Pk.bJ,h1];have:=Pk.fY hy;omega);have aI:=ao.below b2 ao.lt;have d3:=aI.cell 2;simp at d3;have bo:=a6.trans (b2.mono a6.size);obtain⟨c3,w3,aa,a3,b3⟩:=nC w2 s;have aw:Src w3 A2 (aA (l++Pk.az kn++Pk.az y)):=(bf.below b3).src.2;have n3:=im A2 (aj w2) m2 c2 s.length c3 (l++Pk.az kn++Pk.az y) s w3 a9.out rfl aw a3 (by omega) (by omega);have br:=bo.trans (b3.mono bo.size);go_wp2_with fail;refine n3.mono ?_;clear n3;rintro e w4 ⟨u4,rfl,r4,bK⟩;obtain⟨A4,m4,c4,rfl,aR,bd⟩:=r4.open_;go_wp2_with fail;go_ret;refine⟨_,rfl,?_,br.trans (bK.mono br.size)⟩;rw[<-List.append_assoc,<-List.append_assoc];exact r4.mono br.size
theorem mS(w:World)(g:Nat)(a b c:Value):w.grownBy (((w.setCell (aj g) a).setCell ⟨g,1,none⟩ b).setCell ⟨g,2,none⟩ c) (some g):=by
 have h1:=aR w g 0 a;have h2:=aR (w.setCell (aj g) a) g 1 b;have a1:=aR ((w.setCell (aj g) a).setCell ⟨g,1,none⟩ b) g 2 c;exact⟨rfl,rfl,rfl,Nat.le_trans h1.size (Nat.le_trans h2.size a1.size),λi hi ay=>(a1.block i (Nat.lt_of_lt_of_le hi (Nat.le_trans h1.size h2.size)) ay).trans ((h2.block i (Nat.lt_of_lt_of_le hi h1.size) ay).trans (h1.block i hi ay))⟩
theorem cv.Cj{w w':World}{T:Nat->Prop}{q g:Nat}{l:List UInt8}(h:cv w T q l)(gr:w.grownBy w' (some g))(hq:q≠g)(hT:¬¬T g):cv w' T q l:=by
 obtain⟨b,off,c,h1,h2,a1,h4,bi⟩:=h;have a7:b≠g:=λe=>hT (by rw[<-e];exact a1);refine⟨b,off,c,h1.grown gr (λe=>hq (by injection e)),Nat.lt_of_lt_of_le h2 gr.size,a1,λj u hu=>?_,bi⟩;rw[World.cell?_of_block (w:=w) (w':=w') (a:=⟨b,off+j,none⟩) (gr.block b h2 (λe=>a7 (by injection e)))];exact h4 j u hu
theorem cv.weak{w:World}{T T':Nat->Prop}{q:Nat}{l:List UInt8}(h:cv w T q l)(hs:∀b,T' b->T b):cv w T' q l:=by
 obtain⟨b,off,c,h1,h2,a1,h4,bi⟩:=h;exact⟨b,off,c,h1,h2,λe=>a1 (hs b e),h4,bi⟩
theorem yL(n:Int)(s:List UInt8):(Program.built Tryz.prog 57 [(1,I af n),(2,.string ⟨s.toArray⟩)]).map Array.toList=some [I af 0,I af n,.string ⟨s.toArray⟩]:=by kernel_rfl
theorem na(n:Int)(s:List UInt8)(w:World):(Instr.build 57 #[(1,I af n),(2,.string ⟨s.toArray⟩)]).run Tryz.prog w=.ok (aE #[ag 0,ag n,.string ⟨s.toArray⟩]) w:=by
 obtain⟨cs,h1,h2⟩:=Option.map_eq_some_iff.1 (yL n s);rw[run_build w 57 _ cs h1];rw[show cs=#[I af 0,I af n,.string ⟨s.toArray⟩] from Array.toList_inj.1 h2]
theorem xW(T:Nat->Prop)(q:Nat)(v:da)(rest:List UInt8)(w:World)(hq:T q)(ae:v.ok)(hf:v.fits)(h:cv w T q (v.enc++rest))(hm:rest.length<=800000000):
 Calls Tryz.prog 244 #[aj q] w λe w'=>e=.returned v.val/\cv w' T q rest/\Goes (cC q) w (cC q) w':=by
 obtain⟨k,x,s⟩:=v;have aq:s.length<=40:=by
  rcases ae with⟨_,h⟩ | ⟨_,_,h⟩ | ⟨_,_,h⟩
  ·simp only at h;rw[h];simp
  ·exact h
  ·simp only at h;rw[h];simp
 obtain⟨y,hy,bT,bp,av⟩:∃y:Nat,y<18446744073709551616/\(if k=1 then Pk.eO x else x.toNat)=y/\(k≠1->x=(y:Int))/\(k=1\/k=2\/k=3):=by
  refine⟨_,?_,rfl,?_,?_⟩
  ·split
   ·exact Pk.kg hf
   ·rcases ae with⟨h,_⟩ | ⟨_,h,_⟩ | ⟨_,h,_⟩<;>simp only at h<;>omega
  ·intro hk;rw[if_neg hk];rcases ae with⟨h,_⟩ | ⟨_,h,_⟩ | ⟨_,h,_⟩<;>simp only at h<;>omega
  ·rcases ae with⟨h,_⟩ | ⟨h,_⟩ | ⟨h,_⟩<;>simp only at h<;>omega
 obtain⟨kn,rfl⟩:∃kn:Nat,k=kn:=⟨k.toNat,by omega⟩;have aE:q<w.heap.size:=by
  obtain⟨_,_,_,k,_⟩:=h;exact k.lt
 have ad:(⟨(kn:Int),x,s⟩:da).enc++rest=Pk.az kn++(Pk.az y++(Pk.aQ s++rest)):=by
  unfold da.enc;simp only[bT,Int.toNat_natCast,List.append_assoc]
 rw[ad]at h;have bm:(Pk.aQ s++rest).length<=800000100:=by unfold Pk.aQ;rw[List.length_append,List.length_append,Pk.bJ];have:=Pk.fY (n:=s.length) (by omega);omega
 have ax:(Pk.az y++(Pk.aQ s++rest)).length<=800000200:=by rw[List.length_append,Pk.bJ];have:=Pk.fY hy;omega
 have a2:kn<4:=by omega
 have ha:=(Below.refl w w).alloc (Nat.le_refl _) (.cells #[ag 0,ag 0,.string ⟨#[]⟩] 57);have h0:cv (w.alloc (.cells #[ag 0,ag 0,.string ⟨#[]⟩] 57)) (λb=>T b\/b=w.heap.size) q (Pk.az kn++(Pk.az y++(Pk.aQ s++rest))):=by
  obtain⟨lb,lo,lc,k1,k2,k3,k4,k5⟩:=h;exact⟨lb,lo,lc,k1.below ha k1.lt,Nat.lt_of_lt_of_le k2 ha.size,λe=>e.elim k3 (λe=>by omega),λj u hu=>(ha.cell (p:=⟨lb,lo+j,none⟩) k2).trans (k4 j u hu),k5⟩
 have n1:=cM (λb=>T b\/b=w.heap.size) q kn _ _ (.inl hq) (by omega) h0 (by omega);have J:=λw=>n2 ⟨(kn:Int),x,s⟩ w;rw[if_pos ae]at J;unfold da.val str at J ⊢;clear ad h h0 ae;obtain⟨w0,ar⟩:=am (w.alloc (.cells #[ag 0,ag 0,.string ⟨#[]⟩] 57));have ay:ai w0 w 57 #[ag 0,ag 0,.string ⟨#[]⟩]:=by rw[ar];exact ai.made _ _ _
 rw[<-ar]at n1 ha;have aw:Goes (cC q) w (cC q) w0:=.ao ha _;obtain⟨rb,bh⟩:=am w.heap.size;rw[<-bh]at ay aE n1;have bn:=Lib.hid bh;clear bh;rcases av with hk | hk
 focus
  have e1:((kn:Int)==1)=true:=(by rw[beq_iff_eq];exact hk);have au:Pk.fA y=x:=(by have h0:=bT;rw[if_pos hk]at h0;rw[<-h0];exact Pk.qD x);have a5:=λw=>sC y w hy;rw[au]at a5;clear au hk bp bT hf;go_enter Tryz.func244,Tryz.ntmps244;go_wp2_with fail;go_step3;go_wp2_with fail;rw[<-ar,<-bn.out];clear ar;refine n1.mono ?_;clear n1;rintro e w1 ⟨rfl,h1,g1⟩;have bz:ai w1 rb 57 _:=ay.grown g1 (λe=>by injection e with e;omega);have aZ:=cM (λb=>T b\/b=rb) q y _ w1 (.inl hq) hy h1 (by omega);go_wp2_with fail;refine aZ.mono ?_;clear aZ;rintro e w2 ⟨rfl,h2,g2⟩;have bN:ai w2 rb 57 _:=bz.grown g2 (λe=>by injection e with e;omega);have n3:=eZ (λb=>T b\/b=rb) q 40 s rest w2 (.inl hq) aq (by omega) h2 (by omega);go_wp2_with fail;refine n3.mono ?_;clear n3;rintro e w3 ⟨u3,rfl,r3,a1,g3⟩;have b0:ai w3 rb 57 _:=bN.goes g3 (by show ¬rb=q;omega);obtain⟨A3,m3,c3,rfl,aD,bY⟩:=r3.open_;have hG:=((aJ (T:=cC q) g1 rfl).trans (aJ (T:=cC q) g2 rfl)).trans g3;have aa:=jH (P:=Tryz.prog) w3 97 9 5 (r3.bytes (S:=λ_=>False) (λ_ h=>h.elim)) Tryz.underlying97 Tryz.underlying5 Tryz.underlying9 m3 c3 aD.out.symm;have aH:=b0.lt;have ah:((3:Int)<(kn:Int))=False:=(by simp;omega);obtain⟨lb,lo,lc,aW,_⟩:=a1;have q1:=aW.cell 1;simp at q1;have qa:∀O,(w3.alloc O).cell? ⟨q,1,none⟩=some (.bool false):=λO=>(by simpa using(aW.alloc O).cell 1);have H3:Hid (cv w3 (λb=>T b\/b=rb) q rest):=⟨lb,lo,lc,aW,by assumption⟩;go_wp2_with (refine en rfl 57 _ rfl #[(1,I af (wrap64 y)),(2,.string ⟨s.toArray⟩)] rfl _ (na _ s w3) ?_);refine(a5 _).mono ?_;rintro e w4 ⟨rfl,rfl⟩;go_wp2_with fail;obtain⟨w5,a8⟩:=am (w3.alloc (.cells #[ag kn,ag x,.string ⟨s.toArray⟩] 57));have bS:=aV a8;have aC:ai w5 w3 57 #[ag kn,ag x,.string ⟨s.toArray⟩]:=(by rw[a8];exact ai.made _ _ _);obtain⟨cb,M⟩:=am w3.heap.size;rw[<-M]at aC;have aF:=b0.below bS b0.lt;have bi:=H3.out.below bS;have Y:=J w5;rw[<-a8,<-M];refine Y.mono ?_;clear Y;rintro e w6 ⟨rfl,b6⟩;have aO:=aC.below b6 aC.lt;have bP:=aF.below b6 aF.lt;have h6:=bi.below b6;obtain⟨s0,s1,s2⟩:=aO.c3;obtain⟨t0,t1,t2⟩:=bP.c3;have f0:=bP.free 0;have f1:=bP.free 1;have f2:=bP.free 2;simp at s0 s1 s2 t0 t1 t2;clear q1 qa aW M a8;go_wp2_with fail;rw[Exit.noGoto_ret];have cG:=((bP.put 0 (ag kn)).put 1 (ag x)).put 2 (.string ⟨s.toArray⟩);simp only[List.setIfInBounds_toArray,List.set_cons_zero,List.set_cons_succ]at cG;refine bodyPost_ret (results_cell_row rfl _ _ rb 57 _ (0,0) _ rfl cG Tryz.underlying57 rfl (by kernel_rfl)) rfl ?_;have gz:=mS w6 rb (ag kn) (ag x) (.string ⟨s.toArray⟩)
 rotate_left
 focus
  have e1:((kn:Int)==1)=false:=(by rw[beq_eq_false_iff_ne];omega);obtain rfl:x=(y:Int):=bp (by omega);have aA:wrap64 (y:Int)=(y:Int):=(by have h1:=hf.1;have h2:=hf.2;simp only at h1 h2;unfold wrap64;omega);clear hk bp bT hf;go_enter Tryz.func244,Tryz.ntmps244;go_wp2_with fail;go_step3;go_wp2_with fail;rw[<-ar,<-bn.out];clear ar;refine n1.mono ?_;clear n1;rintro e w1 ⟨rfl,h1,g1⟩;have bz:ai w1 rb 57 _:=ay.grown g1 (λe=>by injection e with e;omega);have aZ:=cM (λb=>T b\/b=rb) q y _ w1 (.inl hq) hy h1 (by omega);go_wp2_with fail;refine aZ.mono ?_;clear aZ;rintro e w2 ⟨rfl,h2,g2⟩;have bN:ai w2 rb 57 _:=bz.grown g2 (λe=>by injection e with e;omega);have n3:=eZ (λb=>T b\/b=rb) q 40 s rest w2 (.inl hq) aq (by omega) h2 (by omega);go_wp2_with fail;refine n3.mono ?_;clear n3;rintro e w3 ⟨u3,rfl,r3,a1,g3⟩;have b0:ai w3 rb 57 _:=bN.goes g3 (by show ¬rb=q;omega);obtain⟨A3,m3,c3,rfl,aD,bY⟩:=r3.open_;have hG:=((aJ (T:=cC q) g1 rfl).trans (aJ (T:=cC q) g2 rfl)).trans g3;have aa:=jH (P:=Tryz.prog) w3 97 9 5 (r3.bytes (S:=λ_=>False) (λ_ h=>h.elim)) Tryz.underlying97 Tryz.underlying5 Tryz.underlying9 m3 c3 aD.out.symm;have aH:=b0.lt;have ah:((3:Int)<(kn:Int))=False:=(by simp;omega);obtain⟨lb,lo,lc,aW,_⟩:=a1;have q1:=aW.cell 1;simp at q1;have qa:∀O,(w3.alloc O).cell? ⟨q,1,none⟩=some (.bool false):=λO=>(by simpa using(aW.alloc O).cell 1);have H3:Hid (cv w3 (λb=>T b\/b=rb) q rest):=⟨lb,lo,lc,aW,by assumption⟩;go_wp2_with (first | (refine en rfl 57 _ rfl #[(1,I af (wrap64 y)),(2,.string ⟨s.toArray⟩)] rfl _ (na _ s w3) ?_) | (refine en rfl 57 _ rfl #[(1,I af (y:Int)),(2,.string ⟨s.toArray⟩)] rfl _ (na _ s w3) ?_));obtain⟨w5,a8⟩:=am (w3.alloc (.cells #[ag kn,ag (y:Int),.string ⟨s.toArray⟩] 57));have bS:=aV a8;have aC:ai w5 w3 57 #[ag kn,ag (y:Int),.string ⟨s.toArray⟩]:=(by rw[a8];exact ai.made _ _ _);obtain⟨cb,M⟩:=am w3.heap.size;rw[<-M]at aC;have aF:=b0.below bS b0.lt;have bi:=H3.out.below bS;have Y:=J w5;rw[<-a8,<-M];refine Y.mono ?_;clear Y;rintro e w6 ⟨rfl,b6⟩;have aO:=aC.below b6 aC.lt;have bP:=aF.below b6 aF.lt;have h6:=bi.below b6;obtain⟨s0,s1,s2⟩:=aO.c3;obtain⟨t0,t1,t2⟩:=bP.c3;have f0:=bP.free 0;have f1:=bP.free 1;have f2:=bP.free 2;simp at s0 s1 s2 t0 t1 t2;clear q1 qa aW M a8;go_wp2_with fail;rw[Exit.noGoto_ret];have cG:=((bP.put 0 (ag kn)).put 1 (ag (y:Int))).put 2 (.string ⟨s.toArray⟩);simp only[List.setIfInBounds_toArray,List.set_cons_zero,List.set_cons_succ]at cG;refine bodyPost_ret (results_cell_row rfl _ _ rb 57 _ (0,0) _ rfl cG Tryz.underlying57 rfl (by kernel_rfl)) rfl ?_;have gz:=mS w6 rb (ag kn) (ag (y:Int)) (.string ⟨s.toArray⟩)
 all_goals
  have ak:Goes (cC q) w (cC q) w6:=(aw.trans hG).trans ((Goes.ao bS _).trans (Goes.ao b6 _));refine⟨rfl,(h6.Cj gz (by omega) (λe=>e (.inr rfl))).weak (λb a7=>.inl a7),gz.os.trans ak.os,gz.tape.trans ak.tape,gz.output.trans ak.output,Nat.le_trans ak.size gz.size,λb a7 aL=>(gz.block b (Nat.lt_of_lt_of_le a7 ak.size) (λe=>?_)).trans (ak.aI b a7 aL),λ_ _ h=>h⟩;injection e with e;have:=bn.out;omega
def jR(c:UInt8):Bool:=decide (97<=c.toNat/\c.toNat<=122) || decide (48<=c.toNat/\c.toNat<=57)
def fc(s:List UInt8):Bool:=decide (1<=s.length/\s.length<=16)&&s.all jR
theorem kx{s:List UInt8}(h:s.length<1\/16<s.length):fc s=false:=by
 unfold fc;rw[decide_eq_false (by omega)];rfl
theorem Ar{P:Prop}(h:P:=by
 clear Y hx hc J M hr;go_wp2
 go_round
 case rel=>exact⟨i+1,by go_num,by omega,(by rw[HS.out];exact HC.out:(s.take (i+1)).all jR=true)⟩
 case measure=>simp[intOf];omega
 ):P:=h
theorem xg(s:List UInt8)(w:World)(hs:s.length<=9223372036854775807):Calls Tryz.prog 174 #[str s] w λe w'=>e=.returned (.bool (fc s))/\w=w':=by
 have bJ:(⟨s.toArray⟩:ByteArray).size=s.length:=by simp[ByteArray.size]
 unfold str;by_cases h1:s.length<1
 ·rw[kx (.inl h1)];go_enter Tryz.func174,Tryz.ntmps174;go_wp2;go_ret;exact⟨rfl,rfl⟩
 by_cases h2:16<s.length
 ·rw[kx (.inr h2)];go_enter Tryz.func174,Tryz.ntmps174;go_wp2;go_ret;exact⟨rfl,rfl⟩
 have hN:fc s=s.all jR:=by
  unfold fc;rw[decide_eq_true (by omega),Bool.true_and]
 rw[hN];obtain⟨r,hr⟩:=am (s.all jR);rw[<-hr];have HR:=Lib.hid hr;have g1:decide ((s.length:Int)<1)=false:=by rw[decide_eq_false_iff_not];omega
 have g2:decide ((16:Int)<(s.length:Int))=false:=by rw[decide_eq_false_iff_not];omega
 clear hr hN;obtain⟨n,aL⟩:=am s.length;rw[<-aL]at bJ g1 g2 h1 h2;have HN:=Lib.hid aL;clear aL;go_enter Tryz.func174,Tryz.ntmps174;go_wp2
 go_loop [15] (λi_=>∃i:Nat,i_=I af i/\i<=n/\Hid ((s.take i).all jR=true)) (λi=>n- (intOf i).toNat)
 case atStart=>exact⟨0,rfl,by omega,(rfl:_=_)⟩
 case round=>
  obtain⟨i,rfl,hi,HA⟩:=hrel;by_cases bA:i<n
  ·have bE:(i:Int)<(n:Int):=(by omega);have bu:i<s.length:=(by have:=HN.out;omega);obtain⟨c,hc⟩:=am (s[i]);have J:(⟨s.toArray⟩:ByteArray).data[i]? =some c:=(by simp[bu,hc]);have M:s[i]? =some c:=(by rw[List.getElem?_eq_getElem bu,hc]);have HS:Hid ((s.take (i+1)).all jR=jR c):=by
    show(s.take (i+1)).all jR=jR c;rw[List.take_succ_eq_append_getElem bu,List.all_append,HA.out,<-hc];simp
   have HX:Hid (jR c=false->s.all jR=false):=λh=>by
    rw[List.all_eq_false];exact⟨c,by rw[hc];exact List.getElem_mem bu,by simp[h]⟩
   have a7:i<(⟨s.toArray⟩:ByteArray).size:=(by omega);obtain⟨x,hx⟩:=am (((⟨s.toArray⟩:ByteArray)[i]'a7).toNat);have Y:x=c.toNat:=(by rw[hx,hc];rfl);have aa:jR c=(decide (97<=x/\x<=122) || decide (48<=x/\x<=57)):=(by rw[Y];rfl);have aA:=Lib.hid aa;clear aa;rcases(show(97<=x/\x<=122)\/(48<=x/\x<=57)\/x<48\/(57<x/\x<97)\/122<x by omega)with hr | hr | hr | hr | hr
   ·have HC:Hid (jR c=true):=by
     show jR c=true;rw[aA.out];simp;omega
    have k1:decide ((((⟨s.toArray⟩:ByteArray)[i]'a7).toNat:Int)<97)=false:=(by rw[decide_eq_false_iff_not];omega);have k2:decide ((122:Int)<(((⟨s.toArray⟩:ByteArray)[i]'a7).toNat:Int))=false:=(by rw[decide_eq_false_iff_not];omega);exact Ar
   ·have HC:Hid (jR c=true):=by
     show jR c=true;rw[aA.out];simp;omega
    have k1:decide ((((⟨s.toArray⟩:ByteArray)[i]'a7).toNat:Int)<97)=true:=(by rw[decide_eq_true_iff];omega);have k2:decide ((((⟨s.toArray⟩:ByteArray)[i]'a7).toNat:Int)<48)=false:=(by rw[decide_eq_false_iff_not];omega);have k3:decide ((57:Int)<(((⟨s.toArray⟩:ByteArray)[i]'a7).toNat:Int))=false:=(by rw[decide_eq_false_iff_not];omega);exact Ar
   ·have HC:Hid (r=false):=by
     show r=false;rw[HR.out];apply HX.out;rw[aA.out];simp;omega
    have k1:decide ((((⟨s.toArray⟩:ByteArray)[i]'a7).toNat:Int)<97)=true:=(by rw[decide_eq_true_iff];omega);have k2:decide ((((⟨s.toArray⟩:ByteArray)[i]'a7).toNat:Int)<48)=true:=(by rw[decide_eq_true_iff];omega);clear Y hx hc J M hr;go_wp2;go_ret;exact⟨by rw[HC.out];rfl,rfl⟩
   ·have HC:Hid (r=false):=by
     show r=false;rw[HR.out];apply HX.out;rw[aA.out];simp;omega
    have k1:decide ((((⟨s.toArray⟩:ByteArray)[i]'a7).toNat:Int)<97)=true:=(by rw[decide_eq_true_iff];omega);have k2:decide ((((⟨s.toArray⟩:ByteArray)[i]'a7).toNat:Int)<48)=false:=(by rw[decide_eq_false_iff_not];omega);have k3:decide ((57:Int)<(((⟨s.toArray⟩:ByteArray)[i]'a7).toNat:Int))=true:=(by rw[decide_eq_true_iff];omega);clear Y hx hc J M hr;go_wp2;go_ret;exact⟨by rw[HC.out];rfl,rfl⟩
   ·have HC:Hid (r=false):=by
     show r=false;rw[HR.out];apply HX.out;rw[aA.out];simp;omega
    have k1:decide ((((⟨s.toArray⟩:ByteArray)[i]'a7).toNat:Int)<97)=false:=(by rw[decide_eq_false_iff_not];omega);have k2:decide ((122:Int)<(((⟨s.toArray⟩:ByteArray)[i]'a7).toNat:Int))=true:=(by rw[decide_eq_true_iff];omega);have k3:decide ((((⟨s.toArray⟩:ByteArray)[i]'a7).toNat:Int)<48)=false:=(by rw[decide_eq_false_iff_not];omega);have k4:decide ((57:Int)<(((⟨s.toArray⟩:ByteArray)[i]'a7).toNat:Int))=true:=(by rw[decide_eq_true_iff];omega);clear Y hx hc J M hr;go_wp2;go_ret;exact⟨by rw[HC.out];rfl,rfl⟩
  ·obtain rfl:i=n:=(by omega);have HE:Hid (r=true):=by
    show r=true;rw[HR.out,<-HA.out,HN.out,List.take_length]
   go_wp2;go_ret;exact⟨by rw[HE.out];rfl,rfl⟩
structure aO where
 name:List UInt8
 v:da
def aO.cells(a:aO):List Value:=[str a.name,I af a.v.kind,I af a.v.n,str a.v.s]
def aO.val(a:aO):Value:=aE #[str a.name,a.v.val]
def aO.fits(a:aO):Prop:=a.name.length<=9223372036854775807/\a.v.fits
def cy:dD aO:=⟨4,λ_ _ u a=>u=a.cells/\a.fits,λh=>by rw[h.1];rfl,λh v hv=>by
 rw[h.1]at hv;simp only[aO.cells,str,List.mem_cons,List.not_mem_nil,or_false]at hv;rcases hv with rfl | rfl | rfl | rfl<;>rfl,λh _=>h⟩
def less(a b:List UInt8):Bool:=Op.bytesLess a b
def g0(e:List aO)(i:Nat):Bool:=
 match e[i]? with
 | none=>false
 | some a=>fc a.name&&(decide a.v.ok&&(match i with | 0=>true | k+1=>match e[k]? with | none=>false | some b=>less b.name a.name))
def gM(e:List aO):Bool:=decide (1<=e.length/\e.length<=16)&&(List.range e.length).all (g0 e)
theorem nN{e:List aO}(h:e.length<1\/16<e.length):gM e=false:=by
 unfold gM;rw[decide_eq_false (by omega)];rfl
theorem zC{e:List aO}{i:Nat}(hi:i<e.length)(h:g0 e i=false):gM e=false:=by
 unfold gM;rw[Bool.and_eq_false_iff];right;rw[List.all_eq_false];exact⟨i,by simpa using hi,by simp[h]⟩
theorem z6{e:List aO}(h1:¬e.length<1)(h2:¬16<e.length)(h:∀i,i<e.length->g0 e i=true):gM e=true:=by
 unfold gM;rw[decide_eq_true (by omega),Bool.true_and,List.all_eq_true];exact λi hi=>h i (by simpa using hi)
theorem rL{e:List aO}{i:Nat}(hi:i<e.length):g0 e i=(fc e[i].name&&(decide e[i].v.ok&&(decide (i=0) || less (e[i-1]'(by omega)).name e[i].name))):=by
 unfold g0;rw[List.getElem?_eq_getElem hi];cases i with
 | zero=>simp
 | succ k=>
  have h:k<e.length:=(by omega);simp[List.getElem?_eq_getElem h]
theorem gi(S:Nat->Prop)(A:Option Addr)(n c:Nat)(e:List aO)(w:World)(aL:n=e.length)(h:SliceAt cy w S A e):
 Calls Tryz.prog 102 #[Y A n c] w λx w'=>x=.returned (ag (if gM e then 0 else 40))/\Below w w w':=by
 obtain⟨r,hr⟩:∃r:Int,r=if gM e then 0 else 40:=⟨_,rfl⟩;rw[<-hr];have HR:=Lib.hid hr;clear hr;by_cases h1:n<1
 ·have HE:Hid (r=40):=by
   show r=40;rw[HR.out,nN (.inl (by omega))];rfl
  clear aL;go_enter Tryz.func102,Tryz.ntmps102;go_wp2;go_step3;go_wp2
  try rw[Exit.noGoto_ret]
  go_ret;exact⟨by rw[HE.out];rfl,.refl _ _⟩
 by_cases h2:16<n
 ·have HE:Hid (r=40):=by
   show r=40;rw[HR.out,nN (.inr (by omega))];rfl
  have g1:decide ((n:Int)<1)=false:=(by rw[decide_eq_false_iff_not];omega);clear aL;go_enter Tryz.func102,Tryz.ntmps102;go_wp2;go_step3;go_wp2
  try rw[Exit.noGoto_ret]
  go_ret;exact⟨by rw[HE.out];rfl,.refl _ _⟩
 have g1:decide ((n:Int)<1)=false:=by rw[decide_eq_false_iff_not];omega
 have g2:decide ((16:Int)<(n:Int))=false:=by rw[decide_eq_false_iff_not];omega
 have aa:=di h1 h2;clear h1 h2;have HN:=Lib.hid aL;clear aL;go_enter Tryz.func102,Tryz.ntmps102;go_wp2;go_step3;go_wp2;refine wp_label ?_;go_wp2
 go_loopw [3,16] (λm_ i_ wr=>∃i:Nat,m_=I af i/\i_=I af i/\i<=n/\Hid (∀j,j<i->g0 e j=true)/\Below w w wr) (λ_ i _=>n- (intOf i).toNat)
 case atStart=>exact⟨0,rfl,rfl,by omega,λj hj=>by omega,.refl _ _⟩
 case round=>
  obtain⟨i,rfl,rfl,hi,HA,a7⟩:=hrel;by_cases bA:i<n
  ·have bu:i<e.length:=(by have:=HN.out;omega);obtain⟨b,off,u,rfl,bV,b8,bx,hcell,hu,aH⟩:=h.at_ bu (by decide);subst hu;have aT:∀j v,e[i].cells[j]? =some v->wr.cell? ⟨b,off+i*4+j,none⟩=some v:=λj v hv=>(a7.cell (p:=⟨b,off+i*4+j,none⟩) bV).trans (hcell j v hv);have ba:wr.cell? ⟨b,off+i*4,none⟩=_:=aT 0 _ rfl;have c1:=aT 1 _ rfl;have c2:=aT 2 _ rfl;have c3:=aT 3 _ rfl;have HK:=Lib.hid (rL bu);have ah:∀h1:0<i,w.cell? ⟨b,off+(i-1)*4,none⟩=some (.string ⟨(e[i-1]'(by omega)).name.toArray⟩):=λh1=>by
    obtain⟨b2,aj,u2,aJ,_,_,_,cA,bb,_⟩:=h.at_ (i:=i-1) (by omega) (by decide);obtain⟨rfl,rfl⟩:b=b2/\off=aj:=(by simpa using aJ);subst bb;exact cA 0 _ rfl
   obtain⟨a,ha⟩:=am (e[i]);rw[<-ha]at ba c1 c2 c3 HK aH;have bE:(i:Int)<(n:Int):=(by omega);clear hcell ha aT bx b8;unfold str at ba c3;obtain⟨w0,ar⟩:=am (wr.alloc (.cells #[.string ⟨a.name.toArray⟩,ag a.v.kind,ag a.v.n,.string ⟨a.v.s.toArray⟩] 60));have hC:ai w0 wr 60 #[.string ⟨a.name.toArray⟩,ag a.v.kind,ag a.v.n,.string ⟨a.v.s.toArray⟩]:=(by rw[ar];exact ai.made _ _ _);have ak:=aV ar;have nm:=xg a.name w0 aH.1;have cv:=n2 a.v w0;obtain⟨cb,M⟩:=am wr.heap.size;rw[<-M]at hC ak;have aF:=Lib.hid M;unfold str at nm;unfold da.val str at cv;have aP:Below w w w0:=a7.trans (ak.mono (by rw[M];exact a7.size));have hB:∀w',Below w0 w0 w'->Below w w w':=λw' h=>aP.trans (h.mono aP.size);have d1:=hC.cell 1;have d2:=hC.cell 2;have d3:=hC.cell 3;simp at d1 d2 d3;have J:Hid (g0 e i=false->r=40):=λh=>(by rw[HR.out,zC bu h];rfl);clear h aH M;go_wp2_with fail;rw[<-ar,<-aF.out];clear ar;refine nm.mono ?_;clear nm;rintro x w1 ⟨rfl,rfl⟩;cases hN:fc a.name with
   | false=>
    have HF:Hid (r=40):=J.out (by rw[HK.out,hN];rfl);go_wp2
    try rw[Exit.noGoto_ret]
    go_ret;exact⟨by rw[HF.out];rfl,aP⟩
   | true=>
    go_wp2_with fail;refine cv.mono ?_;clear cv;rintro x w1 ⟨rfl,aY⟩;by_cases ae:a.v.ok
    case neg=>
     have HF:Hid (r=40):=J.out (by rw[HK.out,hN,decide_eq_false ae];rfl);rw[if_neg ae];clear ae hN;go_wp2
     try rw[Exit.noGoto_ret]
     go_ret;exact⟨by rw[HF.out];rfl,hB _ aY⟩
    rw[if_pos ae];have ao:=hC.below aY hC.lt;have aB:=ao.cell 0;simp at aB;have a6:=di hN ae;clear hN ae d1 d2 d3;by_cases bM:i=0
    ·subst bM;have HS:Hid (g0 e 0=true):=by
      show g0 e 0=true;rw[HK.out,a6.out.1,decide_eq_true a6.out.2];rfl
     go_wp2
     go_quiet (fail)
     go_wp2
     go_round
     case rel=>exact⟨1,rfl,rfl,by omega,(λj hj=>by obtain rfl:j=0:=(by omega);exact HS.out:Hid (∀j,j<1->g0 e j=true)),dc (hB _ aY)⟩
     case measure=>simp[intOf];omega
    ·have ad:0<i:=(by omega);have g3:decide (0<i)=true:=decide_eq_true ad;obtain⟨p,hp⟩:=am (e[i-1]'(by omega));obtain⟨L,hL⟩:=am (less p.name a.name);have HP:Hid (g0 e i=L):=by
      show g0 e i=L;rw[HK.out,a6.out.1,decide_eq_true a6.out.2,decide_eq_false bM,hL,hp];rfl
     have HL:=Lib.hid hL;have aw:=ah ad;rw[<-hp]at aw;clear hL hp bM;have p0:w1.cell? ⟨b,off+(i-1)*4,none⟩=some (.string ⟨p.name.toArray⟩):=((hB _ aY).cell (p:=⟨b,off+(i-1)*4,none⟩) bV).trans aw;have i1:((i:Int)-1).toNat=i-1:=(by omega);have i2:¬ ((i:Int)-1<0):=(by omega);have i3:(i:Int)-1<n:=(by omega);have i4:decide (0<=(i:Int)-1)=true:=(by rw[decide_eq_true_iff];omega);clear aw;obtain⟨k,rfl⟩:∃k,i=k+1:=⟨i-1,by omega⟩;simp only[Nat.add_sub_cancel]at p0;clear i1 i2 i3 i4;have i5:((k+1:Nat):Int)-1=(k:Int):=(by omega);have i6:k<n:=(by omega);have au:n<=16:=(by have:=aa.out;omega);have i7:IntKind.i64.wrap (k:Int)=(k:Int):=(by rw[IntKind.wrap_i64];omega);cases hl:Op.bytesLess p.name a.name with
     | false=>
      have HF:Hid (r=40):=J.out (by rw[HP.out,HL.out];exact hl);go_wp2
      go_quiet (fail)
      go_wp2;rw[Exit.noGoto_ret];go_ret;exact⟨by rw[HF.out];rfl,dc (hB _ aY)⟩
     | true=>
      have HS:Hid (g0 e (k+1)=true):=by
       show g0 e (k+1)=true;rw[HP.out,HL.out];exact hl
      go_wp2
      go_quiet (fail)
      go_wp2
      go_round
      case rel=>exact⟨k+2,by go_num,by go_num,by omega,(λj hj=>by
       by_cases bF:j=k+1
       ·rw[bF];exact HS.out
       ·exact HA.out j (by omega):Hid (∀j,j<k+2->g0 e j=true)),dc (hB _ aY)⟩
      case measure=>simp[intOf];omega
  ·obtain rfl:i=n:=(by omega);have HE:Hid (r=0):=by
    show r=0;rw[HR.out,z6 (by have:=aa.out.1;have:=HN.out;omega) (by have:=aa.out.2;have:=HN.out;omega) (λj hj=>HA.out j (by have:=HN.out;omega))];rfl
   go_wp2;rw[Exit.noGoto_ret];go_ret;exact⟨by rw[HE.out];rfl,a7⟩
def aO.enc(a:aO):List UInt8:=Pk.aQ a.name++a.v.enc
def gt(n:Nat)(e:List aO):List UInt8:=Pk.az n++(e.map aO.enc).flatten
def c0(e:List aO):List UInt8:=gt e.length e
theorem fw{e:List aO}(h:gM e=true):1<=e.length/\e.length<=16:=by
 unfold gM at h;rw[Bool.and_eq_true]at h;exact of_decide_eq_true h.1
theorem jx{e:List aO}(h:gM e=true){i:Nat}(hi:i<e.length):fc e[i].name=true/\e[i].v.ok:=by
 unfold gM at h;rw[Bool.and_eq_true,List.all_eq_true]at h;have:=h.2 i (by simpa using hi);rw[rL hi,Bool.and_eq_true,Bool.and_eq_true]at this;exact⟨this.1,of_decide_eq_true this.2.1⟩
theorem h9{s:List UInt8}(h:fc s=true):1<=s.length/\s.length<=16:=by
 unfold fc at h;rw[Bool.and_eq_true]at h;exact of_decide_eq_true h.1
theorem cR(b:List UInt8)(h:b.length<=1000000):(Pk.aQ b).length<=9+b.length:=by
 unfold Pk.aQ;rw[List.length_append,Pk.bJ];have:=Pk.fY (n:=b.length) (by omega);omega
theorem da.bZ{v:da}(h:v.ok)(hf:v.fits):v.enc.length<=67:=by
 obtain⟨k,n,s⟩:=v;have aq:s.length<=40:=by
  rcases h with⟨_,h⟩ | ⟨_,_,h⟩ | ⟨_,_,h⟩
  ·simp only at h;rw[h];simp
  ·exact h
  ·simp only at h;rw[h];simp
 have hk:k.toNat<18446744073709551616:=by rcases h with⟨h,_⟩ | ⟨h,_,_⟩ | ⟨h,_,_⟩<;>simp only at h<;>omega
 have hy:(if k=1 then Pk.eO n else n.toNat)<18446744073709551616:=by
  split
  ·exact Pk.kg hf
  ·have:=hf.2;simp only at this;omega
 unfold da.enc;simp only[List.length_append,Pk.bJ];have:=cR s (by omega);have:=Pk.fY hk;have:=Pk.fY hy;omega
theorem aO.bZ{a:aO}(h:fc a.name=true)(hv:a.v.ok)(hf:a.v.fits):a.enc.length<=92:=by
 unfold aO.enc;rw[List.length_append];have:=h9 h;have:=cR a.name (by omega);have:=da.bZ hv hf;omega
theorem hR{n:Nat}{e:List aO}(aL:n<=16)(h:∀a∈e,fc a.name=true/\a.v.ok/\a.v.fits):(gt n e).length<=9+92*e.length:=by
 unfold gt;rw[List.length_append,Pk.bJ];have:=Pk.fY (n:=n) (by omega)
 suffices hh:(e.map aO.enc).flatten.length<=92*e.length by omega
 clear this
 induction e with
 | nil=>simp
 | cons a e M=>
  have h1:=M (λb a7=>h b (by simp[a7]));obtain⟨k1,k2,k3⟩:=h a (by simp);have h2:=aO.bZ k1 k2 k3;rw[List.map_cons,List.flatten_cons,List.length_append,List.length_cons];omega
theorem SliceAt.fits{w:World}{S:Nat->Prop}{A:Option Addr}{e:List aO}(h:SliceAt cy w S A e):∀a∈e,a.fits:=λa ha=>by
 obtain⟨i,hi,rfl⟩:=List.getElem_of_mem ha;obtain⟨_,_,_,_,_,_,_,_,_,hf⟩:=h.at_ hi (by decide);exact hf
theorem ru(n:Nat)(e:List aO)(i:Nat)(hi:i<e.length):gt n (e.take (i+1))=gt n (e.take i)++Pk.aQ e[i].name++e[i].v.enc:=by
 unfold gt;rw[List.take_succ_eq_append_getElem hi,List.map_append,List.flatten_append,List.append_assoc,List.append_assoc];simp[aO.enc]
theorem oF(S:Nat->Prop)(A:Option Addr)(n c:Nat)(e:List aO)(w:World)(aL:n=e.length)(h:SliceAt cy w S A e)(aB:gM e=true):
 Calls Tryz.prog 239 #[Y A n c] w λx w'=>∃u,x=.returned (.tuple #[u,ag 0])/\Row w' w u (c0 e)/\Below w w w':=by
 have ad:=gi S A n c e w aL h;rw[if_pos aB]at ad;have hlen:=fw aB;have av:∀a∈e,fc a.name=true/\a.v.ok/\a.v.fits:=λa ha=>by
  have hf:=h.fits a ha;obtain⟨i,hi,rfl⟩:=List.getElem_of_mem ha;exact⟨(jx aB hi).1,(jx aB hi).2,hf.2⟩
 have HM:=Lib.hid av;have au:n<=16:=by omega
 have hE:c0 e=gt n e:=by rw[aL];rfl
 have HE:=Lib.hid hE;have HN:=Lib.hid aL;clear av hlen hE aL aB;go_enter Tryz.func239,Tryz.ntmps239;go_wp2_with fail;refine ad.mono ?_;clear ad;rintro x w1 ⟨rfl,b1⟩;have n1:=b7 none 0 0 n [] w1 rfl (by omega) (.inl rfl) (by omega);go_wp2_with fail;refine n1.mono ?_;clear n1;rintro x w2 ⟨u2,rfl,bf,b2⟩;have bo:=b1.trans (b2.mono b1.size);go_wp2_with fail
 go_loopw [5,19] (λu_ i_ wr=>∃i:Nat,i_=I af i/\i<=n/\Row wr w u_ (gt n (e.take i))/\Below w w wr) (λ_ i _=>n- (intOf i).toNat)
 case atStart=>exact⟨0,rfl,by omega,by simpa[gt]using bf.mono b1.size,bo⟩
 case round=>
  obtain⟨i,rfl,hi,aI,a7⟩:=hrel;by_cases bA:i<n
  ·have bu:i<e.length:=(by have:=HN.out;omega);have bE:(i:Int)<(n:Int):=(by omega);have a0:=Lib.hid (ru n e i bu);have bh:(gt n (e.take i)).length<=2000:=by
    have:=hR (n:=n) (e:=e.take i) au (λa ha=>HM.out a (List.mem_of_mem_take ha));rw[List.length_take]at this;omega
   obtain⟨b,off,u,rfl,bV,b8,bx,hcell,hu,aH⟩:=h.at_ bu (by decide);subst hu;have aT:∀j v,e[i].cells[j]? =some v->wr.cell? ⟨b,off+i*4+j,none⟩=some v:=λj v hv=>(a7.cell (p:=⟨b,off+i*4+j,none⟩) bV).trans (hcell j v hv);have ba:wr.cell? ⟨b,off+i*4,none⟩=_:=aT 0 _ rfl;have c1:=aT 1 _ rfl;have c2:=aT 2 _ rfl;have c3:=aT 3 _ rfl;have av:=HM.out e[i] (List.getElem_mem bu);obtain⟨a,ha⟩:=am (e[i]);rw[<-ha]at ba c1 c2 c3 a0 aH av;clear hcell ha aT bx b8;unfold str at ba c3;obtain⟨w0,ar⟩:=am (wr.alloc (.cells #[.string ⟨a.name.toArray⟩,ag a.v.kind,ag a.v.n,.string ⟨a.v.s.toArray⟩] 60));have hC:ai w0 wr 60 #[.string ⟨a.name.toArray⟩,ag a.v.kind,ag a.v.n,.string ⟨a.v.s.toArray⟩]:=(by rw[ar];exact ai.made _ _ _);have ak:=aV ar;have ay:=aI.below ak;obtain⟨cb,M⟩:=am wr.heap.size;rw[<-M]at hC ak;have aF:=Lib.hid M;have aP:Below w w w0:=a7.trans (ak.mono (by rw[M];exact a7.size));have d0:=hC.cell 0;simp at d0;obtain⟨A1,m1,k1,rfl,aK,bp⟩:=ay.open_;obtain⟨k3,w3,aa,a3,b3⟩:=nC w0 a.name;have cu:=h9 av.1;have ah:m1<=2000:=(by have:=aK.out;omega);have b0:=ay.below b3;have n3:=im A1 (aj w0) m1 k1 a.name.length k3 (gt n (e.take i)) a.name w3 aK.out rfl b0.src.2 a3 (by omega) (by omega);have aw:=hC.below b3 hC.lt;have ae:=aP.trans (b3.mono aP.size);clear h M;go_wp2_with fail;rw[<-ar,<-aF.out];clear ar;simp only[aa,Result.andThen_ok];go_wp2_with fail;refine n3.mono ?_;clear n3;rintro x w4 ⟨u4,rfl,r4,bK⟩;obtain⟨A4,m4,k4,rfl,aR,bR⟩:=r4.open_;have a2:m4<=3000:=by
    rw[<-aR.out,List.length_append,aK.out];have:=cR a.name (by omega);omega
   have aW:=aw.below bK aw.lt;have e1:=aW.cell 1;have a5:=aW.cell 2;have e3:=aW.cell 3;simp at e1 a5 e3;have J:=ae.trans (bK.mono ae.size);have n4:=zW a.v A4 m4 k4 _ w4 aR.out r4.src.2 (by omega) av.2.1 av.2.2;unfold da.val str at n4;go_wp2_with fail;refine n4.mono ?_;clear n4;rintro x w5 ⟨u5,rfl,r5,bS⟩;rw[<-a0.out]at r5;go_wp2_with fail
   go_round
   case rel=>exact⟨i+1,by go_num,by omega,r5.mono J.size,J.trans (bS.mono J.size)⟩
   case measure=>simp[intOf];omega
  ·obtain rfl:i=n:=(by omega);have HX:Hid (c0 e=gt i (e.take i)):=by
    show c0 e=_;rw[HE.out,HN.out,List.take_length]
   go_wp2;go_ret2;exact⟨_,rfl,by rw[HX.out];exact aI,a7⟩
theorem cv.up{w:World}{T:Nat->Prop}{q:Nat}{l:List UInt8}(h:cv w T q l)(hq:T q):cv w (λb=>b=q\/w.heap.size<=b) q l:=by
 obtain⟨b,off,c,h1,h2,a1,h4⟩:=h;refine⟨b,off,c,h1,h2,?_,h4⟩;rintro(h | h)
 ·exact a1 (h▸hq)
 ·omega
theorem cv.h5{w:World}{T:Nat->Prop}{q:Nat}{l:List UInt8}(h:cv w T q l):q<w.heap.size:=by
 obtain⟨_,_,_,k,_⟩:=h;exact k.lt
theorem cv.app{w w':World}{T:Nat->Prop}{q:Nat}{l:List UInt8}{row:Option Nat}(h:cv w T q l)(gr:w.grownBy w' row)(hr:∀g,row=some g->g≠q/\T g):cv w' T q l:=by
 obtain⟨b,off,c,h1,h2,a1,h4,bi⟩:=h;have a7:some b≠row:=λe=>a1 (hr b e.symm).2;exact⟨b,off,c,h1.grown gr (λe=>(hr q e.symm).1 rfl),Nat.lt_of_lt_of_le h2 gr.size,a1,λj u hu=>gr.cell (h4 j u hu) a7,bi⟩
theorem cS{w w':World}{S S':Nat->Prop}{base e k n:Nat}{v:Value}{xs:List Value}(h:w.ownsRow base e k v n xs)(g:Goes S w S' w')(hs:∀b,v.ownBlock=some b->¬S b):w'.ownsRow base e k v n xs:=by
 refine⟨h.1,?_⟩;rcases h.2 with aL | ⟨b,cap,cur,hv,hg,hh,rest⟩
 ·exact .inl aL
 ·refine .inr ⟨b,cap,cur,hv,hg,(g.aI b (Array.getElem?_eq_some_iff.1 hh).1 (hs b (by rw[hv];rfl))).trans hh,rest⟩
theorem jk{w w':World}{S S':Nat->Prop}(g:Goes S w S' w'){B:Nat}(hB:B<=w.heap.size)(hS:∀b,S b->B<=b):Below B w w':=
 ⟨g.os,g.tape,g.output,g.size,λb a7=>g.aI b (by omega) (λe=>by have:=hS b e;omega)⟩
theorem dS{w:World}{base n c:Nat}{A:Option Addr}{e:List aO}{S:Nat->Prop}(h:w.ownsRow base 60 4 (Y A n c) n (e.map aO.cells).flatten)(hS:∀b,S b->b<base)(hf:∀a∈e,a.fits):SliceAt cy w S A e:=
 .eu (r:=cy) h hS (by simp) (λi u a hu ha=>by
  rw[List.getElem?_map,ha]at hu;injection hu with hu;exact⟨hu.symm,hf a (List.mem_of_getElem? ha)⟩)
theorem Tryz.jM:(Tryz.prog.info? 60).map (λi=>(i.zero.map (λz=>z.cells.size),i.size,i.bytes))=some (some 4,4,48):=by kernel_rfl
theorem aS{P:Program}{e:TypeId}{k size bytes:Nat}(h:(P.info? e).map (λi=>(i.zero.map (λz=>z.cells.size),i.size,i.bytes))=some (some k,size,bytes)):
 ∃i z,P.info? e=some i/\i.zero=some z/\z.cells.size=k/\i.size=size/\i.bytes=bytes:=by
 obtain⟨i,hi,he⟩:=Option.map_eq_some_iff.1 h;injection he with h1 h2;injection h2 with h2 a1;obtain⟨z,hz,hk⟩:=Option.map_eq_some_iff.1 h1;exact⟨i,z,hi,hz,hk,h2,a1⟩
theorem zw(s:List UInt8)(k n:Int)(t:List UInt8):(Program.built Tryz.prog 60 [(0,.string ⟨s.toArray⟩),(1,aE #[ag k,ag n,.string ⟨t.toArray⟩])]).map Array.toList=some [.string ⟨s.toArray⟩,I af k,I af n,.string ⟨t.toArray⟩]:=by kernel_rfl
theorem y2(s:List UInt8)(k n:Int)(t:List UInt8)(w:World):(Instr.build 60 #[(0,.string ⟨s.toArray⟩),(1,aE #[ag k,ag n,.string ⟨t.toArray⟩])]).run Tryz.prog w=.ok (aE #[.string ⟨s.toArray⟩,ag k,ag n,.string ⟨t.toArray⟩]) w:=by
 obtain⟨cs,h1,h2⟩:=Option.map_eq_some_iff.1 (zw s k n t);rw[run_build w 60 _ cs h1];rw[show cs=#[.string ⟨s.toArray⟩,I af k,I af n,.string ⟨t.toArray⟩] from Array.toList_inj.1 h2]
def fh(e:List aO)(i:Nat):List UInt8:=((e.drop i).map aO.enc).flatten
theorem qU(e:List aO)(i:Nat)(hi:i<e.length):fh e i=Pk.aQ e[i].name++(e[i].v.enc++fh e (i+1)):=by
 unfold fh;rw[List.drop_eq_getElem_cons hi,List.map_cons,List.flatten_cons];simp[aO.enc]
theorem mU{e:List aO}(hm:∀a∈e,fc a.name=true/\a.v.ok/\a.v.fits)(cz:e.length<=16)(i:Nat):(fh e i).length<=1500:=by
 have h:=hR (n:=0) (e:=e.drop i) (by omega) (λa ha=>hm a (List.mem_of_mem_drop ha));unfold gt at h;rw[List.length_append,List.length_drop]at h;unfold fh;omega
theorem oR(A:Option Addr)(n c:Nat)(e:List aO)(w:World)(aL:(c0 e).length=n)(h:Src w A (aA (c0 e)))(hm:n<=900000000)(aB:gM e=true)(aH:∀a∈e,a.fits):
 Calls Tryz.prog 186 #[Y A n c] w λx w'=>∃A' c',x=.returned (.tuple #[Y A' e.length c',ag 0])/\w'.ownsRow w 60 4 (Y A' e.length c') e.length (e.map aO.cells).flatten/\Below w w w':=by
 have hlen:=fw aB;have av:∀a∈e,fc a.name=true/\a.v.ok/\a.v.fits:=λa ha=>by
  have hf:=aH a ha;obtain⟨i,hi,rfl⟩:=List.getElem_of_mem ha;exact⟨(jx aB hi).1,(jx aB hi).2,hf.2⟩
 have HM:=Lib.hid av;have af:=Lib.hid (mU av hlen.2);obtain⟨l,hl⟩:=am e.length;have HL:=Lib.hid hl;have hE:c0 e=Pk.az l++fh e 0:=by rw[hl];rfl
 have bn:=Lib.hid aB;have HF:=Lib.hid aH;rw[<-hl]at hlen ⊢;have new:=ek A n c (c0 e) w aL h hm (λ_=>False) (λ_ h=>h.elim);rw[hE]at new;obtain⟨i0,z0,bM,bL,bB,bJ,bR⟩:=aS Tryz.jM;clear av aL hE aB aH h hl;go_enter Tryz.func186,Tryz.ntmps186;go_wp2_with fail;refine new.mono ?_;clear new;rintro x w1 ⟨q,rfl,hq,rd,b1⟩;have n1:=cM _ q l (fh e 0) w1 (.inr rfl) (by omega) rd (by have:=af.out 0;omega);go_wp2_with fail;refine n1.mono ?_;clear n1;rintro x w2 ⟨rfl,ao,au⟩;have ao:=ao.up (.inr rfl);have b2:Below w w w2:=b1.grown au b1.size (λk e=>by injection e with e;omega);have bh:decide (16<l)=false:=by rw[decide_eq_false_iff_not];omega
 go_wp2_with fail;have bS:q<w2.heap.size:=ao.h5
 go_loopw [6,15] (λv_ i_ wr=>∃i:Nat,i_=I ak i/\i<=l/\cv wr (λb=>b=q\/w2.heap.size<=b) q (fh e i)/\wr.ownsRow w2 60 4 v_ i ((e.take i).map aO.cells).flatten/\Below w w wr/\w2.heap.size<=wr.heap.size) (λ_ i _=>l- (intOf i).toNat)
 case atStart=>exact⟨0,rfl,by omega,ao,⟨rfl,.inl ⟨rfl,rfl⟩⟩,b2,Nat.le_refl _⟩
 case round=>
  obtain⟨i,rfl,hi,M,ho,a7,ae⟩:=hrel;by_cases bA:i<l
  ·have bu:i<e.length:=(by have:=HL.out;omega);have bE:(i:Int)<(l:Int):=(by omega);have av:=HM.out e[i] (List.getElem_mem bu);have aw:=qU e i bu;have a4:Hid (((e.take (i+1)).map aO.cells).flatten=((e.take i).map aO.cells).flatten++e[i].cells):=by
    show((e.take (i+1)).map aO.cells).flatten=_;rw[List.take_succ_eq_append_getElem bu,List.map_append,List.flatten_append];simp
   obtain⟨a,ha⟩:=am (e[i]);rw[<-ha]at aw av a4;rw[aw]at M;have aF:(a.v.enc++fh e (i+1)).length<=2000:=by
    rw[List.length_append];have:=da.bZ av.2.1 av.2.2;have:=af.out (i+1);omega
   have cu:=h9 av.1;have n3:=eZ _ q 16 a.name _ wr (.inl rfl) cu.2 (by omega) M (by omega);obtain⟨A1,c1,rfl⟩:=eH ho;have aq:∃cs,ai wr q 264 cs:=by
    obtain⟨_,_,_,k,_⟩:=M;exact⟨_,k⟩
   obtain⟨cs,aX⟩:=aq;have J:=aX.cx ho (by decide);clear aw ha aX M;go_wp2_with fail;refine n3.mono ?_;clear n3;rintro x w3 ⟨u3,rfl,r3,ax,g3⟩;have a8:=cS ho g3 (λb a7=>by
    intro e;exact J (by rw[a7,show b=q from e]))
   have b3:Below w2 wr w3\/True:=.inr trivial;have ah:Below w w w3:=a7.trans (jk g3 a7.size (λb e=>by rw[show b=q from e];have:=b1.size;omega));obtain⟨A3,m3,c3,rfl,aD,bY⟩:=r3.open_;have aa:=jH (P:=Tryz.prog) w3 97 9 5 (r3.bytes (S:=λ_=>False) (λ_ h=>h.elim)) Tryz.underlying97 Tryz.underlying5 Tryz.underlying9 m3 c3 aD.out.symm;have n4:=xW _ q a.v (fh e (i+1)) w3 (.inl rfl) av.2.1 av.2.2 ax (by have:=af.out (i+1);omega);unfold da.val str at n4;clear r3 ax ho;go_wp2_with fail;refine n4.mono ?_;clear n4;rintro x w4 ⟨rfl,bp,g4⟩;have ad:=cS a8 g4 (λb a7=>by
    intro e;exact J (by rw[a7,show b=q from e]))
   have cn:Below w w w4:=ah.trans (jk g4 ah.size (λb e=>by rw[show b=q from e];exact hq));clear a8;have cp:w2.heap.size<=w4.heap.size:=Nat.le_trans ae (Nat.le_trans g3.size g4.size);go_wp2_with (first | (refine en rfl 60 _ rfl #[(0,.string ⟨a.name.toArray⟩),(1,aE #[ag a.v.kind,ag a.v.n,.string ⟨a.v.s.toArray⟩])] rfl _ (y2 _ _ _ _ w4) ?_) | (at_builtin;refine ca _ rfl (.tmp 20) (.tmp 25) 39 rfl w2 4 60 i0 z0 48 Tryz.underlying39 bM bL bJ bR bB (by omega) _ i _ rfl (aT ad ((Below.refl _ _).alloc (Nat.le_refl _) _)) (aj w4) 1 1 a.cells rfl rfl (Src.made w4 _ a.cells) (λu hu=>by simp[aO.cells,str]at hu;rcases hu with rfl | rfl | rfl | rfl<;>rfl) (by unfold maxLen;omega) (by omega) (by simp;omega) ?_;intro A5 c5 w5 ay ar bP));have aC:=aT ad ((Below.refl w4 w4).alloc (Nat.le_refl _) (.cells #[.string ⟨a.name.toArray⟩,ag a.v.kind,ag a.v.n,.string ⟨a.v.s.toArray⟩] 60));have aQ:∀g,(Value.slice A1 i c1).ownBlock=some g->w2.heap.size<=g:=λg hg=>(aC.lt g hg).1;rw[<-a4.out]at ay
   go_round
   case rel=>exact⟨i+1,by go_num,by omega,(bp.below ((Below.refl _ _).alloc (Nat.le_refl _) _)).app ar (λg hg=>⟨by have:=aQ g hg;omega,.inr (aQ g hg)⟩),ay,(cn.alloc cn.size _).trans (bC aC ar b2.size (by simp;omega)),Nat.le_trans cp (Nat.le_trans (by simp) ar.size)⟩
   case measure=>simp[intOf];omega
  ·obtain rfl:i=l:=(by omega);have bj:fh e i=[]:=by
    unfold fh;rw[HL.out];simp
   rw[bj]at M;rw[HL.out,List.take_length,<-HL.out]at ho;obtain⟨A1,c1,rfl⟩:=eH ho;have d:=eE _ q wr M;have ck:=gi (λ_=>False) A1 i c1 e wr HL.out (dS ho (λ_ h=>h.elim) HF.out);rw[if_pos bn.out]at ck;clear bj M;go_wp2_with fail;refine d.mono ?_;clear d;rintro x w3 ⟨rfl,rfl⟩;go_wp2_with fail;refine ck.mono ?_;clear ck;rintro x w4 ⟨rfl,bK⟩;go_wp2;go_ret2;exact⟨A1,c1,rfl,dt (aT ho bK) b2.size,a7.trans (bK.mono a7.size)⟩
abbrev aa:Value:=Y none 0 0
theorem h8(w:World):Calls Tryz.prog 200 #[aa] w λx w'=>x=.returned (ag 0)/\w=w':=by
 go_enter Tryz.func200,Tryz.ntmps200;go_wp2
 go_loop [11] (λi_=>i_=I af 0) (λi=>0)
 case atStart=>rfl
 case round=>
  obtain rfl:=hrel;go_wp2;go_ret;exact⟨rfl,rfl⟩
theorem nw(w:World):Calls Tryz.prog 240 #[aa] w λx w'=>∃u,x=.returned (.tuple #[u,ag 0])/\Row w' w u (Pk.az 0)/\Below w w w':=by
 go_enter Tryz.func240,Tryz.ntmps240;go_wp2_with fail;refine(h8 w).mono ?_;rintro x w1 ⟨rfl,rfl⟩;have n1:=b7 none 0 0 0 [] w rfl (by omega) (.inl rfl) (by omega);go_wp2_with fail;refine n1.mono ?_;clear n1;rintro x w2 ⟨u2,rfl,bf,b2⟩;go_wp2_with fail
 go_loop [5,19] (λv_ i_=>v_=u2/\i_=I af 0) (λ_ i=>0)
 case atStart=>exact⟨rfl,rfl⟩
 case round=>
  obtain⟨rfl,rfl⟩:=hrel;go_wp2;go_ret2;exact⟨_,rfl,bf,b2⟩
theorem n8(A:Option Addr)(n c:Nat)(w:World)(aL:(Pk.az 0).length=n)(h:Src w A (aA (Pk.az 0))):
 Calls Tryz.prog 187 #[Y A n c] w λx w'=>x=.returned (.tuple #[aa,ag 0])/\Below w w w':=by
 have bv:n<=900000000:=by rw[<-aL,Pk.bJ];have:=Pk.fY (n:=0) (by omega);omega
 have new:=ek A n c (Pk.az 0) w aL h bv (λ_=>False) (λ_ h=>h.elim);rw[<-List.append_nil (Pk.az 0)]at new;clear aL h;go_enter Tryz.func187,Tryz.ntmps187;go_wp2_with fail;refine new.mono ?_;clear new;rintro x w1 ⟨q,rfl,hq,rd,b1⟩;have n1:=cM _ q 0 [] w1 (.inr rfl) (by omega) rd (by simp);go_wp2_with fail;refine n1.mono ?_;clear n1;rintro x w2 ⟨rfl,ao,au⟩;have b2:Below w w w2:=b1.grown au b1.size (λk e=>by injection e with e;omega);have d:=eE _ q w2 ao;go_wp2_with fail
 go_loop [6,16] (λv_ i_=>v_=aa/\i_=I ak 0) (λ_ i=>0)
 case atStart=>exact⟨rfl,rfl⟩
 case round=>
  obtain⟨rfl,rfl⟩:=hrel;go_wp2_with fail;refine d.mono ?_;clear d;rintro x w3 ⟨rfl,rfl⟩;go_wp2_with fail;refine(h8 w2).mono ?_;rintro x w3 ⟨rfl,rfl⟩;go_wp2;go_ret2;exact⟨rfl,b2⟩
structure PId where
 au:Nat
 aq:Nat
 ax:Nat
 deriving DecidableEq
def PId.val(x:PId):Value:=aE #[ag x.au,av x.aq,av x.ax]
def PId.cells(x:PId):List Value:=[I af x.au,I ak x.aq,I ak x.ax]
structure PId.aH (x:PId):Prop where
 b:x.au<16
 l:x.aq<18446744073709551616
 s:x.ax<18446744073709551616
def PId.enc(x:PId):List UInt8:=Pk.az x.au++Pk.az x.aq++Pk.az x.ax
theorem pU(x:PId)(w:World)(h:x.au<16):Calls Tryz.prog 189 #[x.val] w λe w'=>e=.returned (.bool true)/\Below w w w':=by
 have g:decide ((x.au:Int)<16)=true:=decide_eq_true (by omega);unfold PId.val;go_enter Tryz.func189,Tryz.ntmps189;go_wp2;go_ret;exact⟨rfl,(Below.refl _ w).alloc (Nat.le_refl _) _⟩
theorem aG(n:Nat)(h:n<18446744073709551616):(Pk.az n).length<=9:=by
 rw[Pk.bJ];have:=Pk.fY h;omega
theorem PId.bZ{x:PId}(h:x.aH):x.enc.length<=27:=by
 unfold PId.enc;simp only[List.length_append];have:=aG x.au (by have:=h.b;omega);have:=aG x.aq h.l;have:=aG x.ax h.s;omega
theorem Ax(A:Option Addr)(n c:Nat)(x:PId)(l:List UInt8)(w:World)(aL:l.length=n)(hx:x.aH)(h:Src w A (aA l))(hm:n<=800000000):
 Calls Tryz.prog 192 #[Y A n c,x.val] w λe w'=>∃u,e=.returned u/\Row w' w u (l++x.enc)/\Below w w w':=by
 have bv:=hx.b;unfold PId.val;obtain⟨w0,ar⟩:=am (w.alloc (.cells #[ag x.au,av x.aq,av x.ax] 32));have hC:ai w0 w 32 #[ag x.au,av x.aq,av x.ax]:=by rw[ar];exact ai.made _ _ _
 have ak:=aV ar;have aC:Src w0 A (aA l):=by
  rcases h with h | ⟨b,off,e1,hc⟩
  ·exact .inl h
  ·exact .inr ⟨b,off,e1,λj u hu=>(ak.cell (p:=⟨b,off+j,none⟩) (World.block_lt_of_cell? w _ (hc j u hu))).trans (hc j u hu)⟩
 have n1:=b7 A n c x.au l w0 aL (by omega) aC (by omega);obtain⟨cb,M⟩:=am w.heap.size;rw[<-M]at hC;have aF:=Lib.hid M;have d0:=hC.cell 0;simp at d0;have e8:(x.au:Int) % 18446744073709551616=x.au:=by omega
 clear h aC M;go_enter Tryz.func192,Tryz.ntmps192;go_wp2_with fail;rw[<-ar,<-aF.out];clear ar;refine n1.mono ?_;clear n1;rintro e w1 ⟨u1,rfl,r1,b1⟩;obtain⟨A1,m1,c1,rfl,aK,bU⟩:=r1.open_;have ah:m1<=n+9:=by rw[<-aK.out,List.length_append];have:=aG x.au (by omega);omega
 have ao:=hC.below b1 hC.lt;have d1:=ao.cell 1;simp at d1;have a6:=ak.trans (b1.mono ak.size);have aZ:=b7 A1 m1 c1 x.aq _ w1 aK.out hx.l r1.src.2 (by omega);go_wp2_with fail;refine aZ.mono ?_;clear aZ;rintro e w2 ⟨u2,rfl,bf,b2⟩;obtain⟨A2,m2,c2,rfl,a9,aT⟩:=bf.open_;have aS:m2<=n+18:=by rw[<-a9.out,List.length_append,aK.out];have:=aG x.aq hx.l;omega
 have aI:=ao.below b2 ao.lt;have d2:=aI.cell 2;simp at d2;have bo:=a6.trans (b2.mono a6.size);have n3:=b7 A2 m2 c2 x.ax _ w2 a9.out hx.s bf.src.2 (by omega);go_wp2_with fail;refine n3.mono ?_;clear n3;rintro e w3 ⟨u3,rfl,r3,b3⟩;go_wp2;go_ret;refine⟨_,rfl,?_,bo.trans (b3.mono bo.size)⟩;unfold PId.enc;rw[<-List.append_assoc,<-List.append_assoc];exact r3.mono bo.size
theorem fp(T:Nat->Prop)(q n I:Nat)(rest:List UInt8)(w:World)(hq:T q)(aL:n<=I)(hl:I<=1000)(h:cv w T q (Pk.az n++rest))(hm:rest.length<=1000000000):
 Calls Tryz.prog 129 #[aj q,ag I] w λe w'=>e=.returned (ag n)/\cv w' T q rest/\w.grownBy w' (some q):=by
 have n1:=cM T q n rest w hq (by omega) h hm;clear h;go_enter Tryz.func129,Tryz.ntmps129;go_wp2_with fail;refine n1.mono ?_;clear n1;rintro e w1 ⟨rfl,r1,g1⟩;go_wp2_with fail;go_ret;exact⟨rfl,r1,g1⟩
theorem cv.wide{w:World}{T:Nat->Prop}{q:Nat}{l:List UInt8}(h:cv w T q l):cv w (λb=>T b\/w.heap.size<=b) q l:=by
 obtain⟨b,off,c,h1,h2,a1,h4⟩:=h;refine⟨b,off,c,h1,h2,?_,h4⟩;rintro(h | h)
 ·exact a1 h
 ·omega
theorem Goes.narrow{w w':World}{S:Nat->Prop}(h:Goes (λb=>S b\/w.heap.size<=b) w (λb=>S b\/w.heap.size<=b) w'):Goes S w S w':=
 ⟨h.os,h.tape,h.output,h.size,λb a7 aL=>h.aI b a7 (λe=>e.elim aL (λe=>by omega)),λ_ _ hs=>hs⟩
theorem cv.put{w:World}{T:Nat->Prop}{q g:Nat}{l:List UInt8}(h:cv w T q l)(hg:g≠q)(hT:T g)(i:Nat)(u:Value):cv (w.setCell ⟨g,i,none⟩ u) T q l:=
 h.app (aR w g i u) (λk hk=>by injection hk with hk;subst hk;exact⟨hg,hT⟩)
theorem zb(b:Int):(Program.built Tryz.prog 32 [(0,I af b)]).map Array.toList=some [I af b,I ak 0,I ak 0]:=by kernel_rfl
theorem q6(b:Int)(w:World):(Instr.build 32 #[(0,I af b)]).run Tryz.prog w=.ok (aE #[ag b,av 0,av 0]) w:=by
 obtain⟨cs,h1,h2⟩:=Option.map_eq_some_iff.1 (zb b);rw[run_build w 32 _ cs h1];rw[show cs=#[I af b,I ak 0,I ak 0] from Array.toList_inj.1 h2]
theorem yI(T:Nat->Prop)(q:Nat)(x:PId)(rest:List UInt8)(w:World)(hq:T q)(hx:x.aH)(h:cv w T q (x.enc++rest))(hm:rest.length<=800000000):
 Calls Tryz.prog 133 #[aj q] w λe w'=>e=.returned x.val/\cv w' T q rest/\Goes (cC q) w (cC q) w':=by
 have aE:=h.h5;have hh:=h.wide;unfold PId.enc at hh;rw[List.append_assoc,List.append_assoc]at hh;have bv:=hx.b;have L1:=aG x.aq hx.l;have L2:=aG x.ax hx.s;obtain⟨w0,ar⟩:=am (w.alloc (.cells #[ag 0,av 0,av 0] 32));have ay:ai w0 w 32 #[ag 0,av 0,av 0]:=by rw[ar];exact ai.made _ _ _
 have aU:=aV ar;have h0:=hh.below aU;obtain⟨rb,bh⟩:=am w.heap.size;rw[<-bh]at ay;have bn:=Lib.hid bh;have n1:=fp _ q x.au 16 _ w0 (.inl hq) (by omega) (by omega) h0 (by simp only[List.length_append];omega);clear hh h h0 bh;unfold PId.val;go_enter Tryz.func133,Tryz.ntmps133;go_wp2_with fail;rw[<-ar,<-bn.out];clear ar;refine n1.mono ?_;clear n1;rintro e w1 ⟨rfl,r1,g1⟩;have bq:rb≠q:=by have:=bn.out;omega
 have bz:ai w1 rb 32 _:=ay.grown g1 (λe=>by injection e with e;omega);go_wp2_with (refine en rfl 32 _ rfl #[(0,I af x.au)] rfl _ (q6 _ w1) ?_);obtain⟨w2,a8⟩:=am (w1.alloc (.cells #[ag x.au,av 0,av 0] 32));have aA:ai w2 w1 32 #[ag x.au,av 0,av 0]:=by rw[a8];exact ai.made _ _ _
 have b2:=aV a8;have bN:=bz.below b2 bz.lt;have h2:=r1.below b2;obtain⟨xb,a0⟩:=am w1.heap.size;rw[<-a0]at aA;have bj:=Lib.hid a0;have bc:w.heap.size<=xb:=by have:=aU.size;have:=g1.size;omega
 have aI:xb≠q:=by omega
 have J:xb≠rb:=by have:=bz.lt;omega
 have aZ:=cM _ q x.aq _ w2 (.inl hq) hx.l h2 (by rw[List.length_append];omega);rw[<-a8,<-a0];clear a8 a0;refine aZ.mono ?_;clear aZ;rintro e w3 ⟨rfl,r3,g3⟩;have aT:ai w3 xb 32 _:=aA.grown g3 (λe=>by injection e with e;omega);have b0:ai w3 rb 32 _:=bN.grown g3 (λe=>by injection e with e;omega);have f1:=aT.free 1;have bg:=aT.cell 1;simp at bg;go_wp2_with fail;clear bg;obtain⟨w4,bd⟩:=am (w3.setCell ⟨xb,1,none⟩ (av x.aq));have aO:ai w4 xb 32 #[ag x.au,av x.aq,av 0]:=by rw[bd];simpa using aT.put 1 (av x.aq)
 have aX:ai w4 rb 32 #[ag 0,av 0,av 0]:=by rw[bd];exact b0.dA (λe=>J e.symm) _
 have h4:=r3.put aI (.inr bc) 1 (av x.aq);rw[<-bd]at h4 ⊢;have g4:w3.grownBy w4 (some xb):=by rw[bd];exact aR _ _ _ _
 have n4:=cM _ q x.ax _ w4 (.inl hq) hx.s h4 (by omega);clear bd f1;refine n4.mono ?_;clear n4;rintro e w5 ⟨rfl,r5,g5⟩;have ca:ai w5 xb 32 _:=aO.grown g5 (λe=>by injection e with e;omega);have aF:ai w5 rb 32 _:=aX.grown g5 (λe=>by injection e with e;omega);have f2:=ca.free 2;have a2:=ca.cell 2;simp at a2;have bZ:=ca.put 2 (av x.ax);have bP:=aF.dA (p:=⟨xb,2,none⟩) (λe=>J e.symm) (av x.ax);simp only[List.setIfInBounds_toArray,List.set_cons_zero,List.set_cons_succ]at bZ;obtain⟨ba,c1,c2⟩:=bZ.c3;have aB:=bP.free 0;have e1:=bP.free 1;have a5:=bP.free 2;obtain⟨k0,k1,k2⟩:=bP.c3;simp at ba c1 c2 k0 k1 k2;have h6:=r5.put aI (.inr bc) 2 (av x.ax);have g6:=aR w5 xb 2 (av x.ax);go_wp2_with fail;obtain⟨w6,aY⟩:=am (w5.setCell ⟨xb,2,none⟩ (av x.ax));rw[<-aY]at bP h6 g6 ⊢;have cG:=((bP.put 0 (ag x.au)).put 1 (av x.aq)).put 2 (av x.ax);simp only[List.setIfInBounds_toArray,List.set_cons_zero,List.set_cons_succ]at cG;have gz:=mS w6 rb (ag x.au) (av x.aq) (av x.ax);refine bodyPost_ret (results_cell_row rfl _ _ rb 32 _ (0,0) _ rfl cG Tryz.underlying32 rfl (by kernel_rfl)) rfl ?_;have a6:w.heap.size<=rb:=by rw[bn.out];exact Nat.le_refl _
 refine⟨rfl,(h6.app gz (λk hk=>by injection hk with hk;subst hk;exact⟨bq,.inr a6⟩)).weak (λb a7=>.inl a7),Goes.narrow ?_⟩;exact(Goes.ao aU _).trans ((aJ g1 (.inl rfl)).trans ((Goes.ao b2 _).trans ((aJ g3 (.inl rfl)).trans ((aJ g4 (.inr bc)).trans ((aJ g5 (.inl rfl)).trans ((aJ g6 (.inr bc)).trans (aJ gz (.inr a6))))))))
def aN:dD (List aO):=⟨1,λw S u e=>∃A c,u=[Y A e.length c]/\SliceAt cy w S A e,λh=>by
 obtain⟨A,c,rfl,_⟩:=h;rfl,λh v hv=>by
 obtain⟨A,c,rfl,_⟩:=h;simp only[List.mem_cons,List.not_mem_nil,or_false]at hv;rw[hv];rfl,λh g=>by
 obtain⟨A,c,rfl,h⟩:=h;exact⟨A,c,rfl,h.goes g⟩⟩
structure ae where
 kind:Nat
 id:PId
 ah:Nat
 sub:Nat
 events:List (List aO)
def ae.cellsOf(x:ae)(A:Option Addr)(c:Nat):List Value:=[I af x.kind,I af x.id.au,I ak x.id.aq,I ak x.id.ax,I af x.ah,I ak x.sub,aa,Y A x.events.length c]
structure ae.aH (x:ae):Prop where
 kind:x.kind=1\/x.kind=2\/x.kind=3
 id:x.id.aH
 ah:x.ah<32
 sub:x.sub<18446744073709551616
 yw:x.kind=1->x.sub=0
 len:x.events.length<=8
 none:x.kind≠1->x.events=[]
 ev:∀e∈x.events,gM e=true/\∀a∈e,a.fits
def ae.enc(x:ae):List UInt8:=
 Pk.az x.kind++x.id.enc++Pk.az x.ah++Pk.az x.sub++
  (if x.kind=1 then Pk.az x.events.length++(x.events.map λe=>Pk.aQ (c0 e)).flatten else if x.kind=2 then Pk.aQ (Pk.az 0)else [])
theorem gx{e:List aO}(h:gM e=true)(hf:∀a∈e,a.fits):(c0 e).length<=1481:=by
 have hl:=fw h;have:=hR (n:=e.length) (e:=e) hl.2 (λa ha=>by
  have h2:=hf a ha;obtain⟨i,hi,rfl⟩:=List.getElem_of_mem ha;exact⟨(jx h hi).1,(jx h hi).2,h2.2⟩)
 unfold c0;omega
theorem uT(S:Nat->Prop)(id:PId)(ah m:Nat)(aX:List (List aO))(A:Option Addr)(c:Nat)(w:World)(bv:id.au<16)(bc:ah<32)(hm:m=aX.length)(h:SliceAt aN w S A aX)(bk:m<=8)(aB:∀e∈aX,gM e=true):
 Calls Tryz.prog 159 #[aE #[ag 1,ag id.au,av id.aq,av id.ax,ag ah,av 0,aa,Y A m c]] w λe w'=>e=.returned (ag 0)/\Below w w w':=by
 obtain⟨w0,ar⟩:=am (w.alloc (.cells #[ag 1,ag id.au,av id.aq,av id.ax,ag ah,av 0,aa,Y A m c] 132));have hC:ai w0 w 132 #[ag 1,ag id.au,av id.aq,av id.ax,ag ah,av 0,aa,Y A m c]:=by rw[ar];exact ai.made _ _ _
 have aU:=aV ar;have h0:=h.below aU;obtain⟨cb,M⟩:=am w.heap.size;rw[<-M]at hC;have aF:=Lib.hid M;have n1:=pU id w0 bv;have c1:=hC.cell 1;have c2:=hC.cell 2;have c3:=hC.cell 3;simp at c1 c2 c3;unfold PId.val at n1;have HM:=Lib.hid hm;have g1:decide ((ah:Int)<0)=false:=by rw[decide_eq_false_iff_not];omega
 have g2:decide ((32:Int)<=(ah:Int))=false:=by rw[decide_eq_false_iff_not];omega
 have g3:decide ((m:Int)<=8)=true:=by rw[decide_eq_true_iff];omega
 have HE:=Lib.hid aB;clear h M hm aB;go_enter Tryz.func159,Tryz.ntmps159;go_wp2_with fail;rw[<-ar,<-aF.out];clear ar;refine n1.mono ?_;clear n1;rintro e w1 ⟨rfl,b1⟩;have a6:=aU.trans (b1.mono aU.size);have ao:=hC.below b1 hC.lt;have ba:=ao.cell 0;have c4:=ao.cell 4;have c5:=ao.cell 5;have bX:=ao.cell 6;have c7:=ao.cell 7;simp at ba c4 c5 bX c7;have h1:=h0.below b1;go_wp2_with fail
 go_loopw [3,4] (λv_ i_ wr=>∃i:Nat,v_=.bool true/\i_=I af i/\i<=m/\Below w1 w1 wr) (λ_ i _=>m- (intOf i).toNat)
 case atStart=>exact⟨0,rfl,rfl,by omega,.refl _ _⟩
 case round=>
  obtain⟨i,rfl,rfl,hi,a7⟩:=hrel;have bq:=ao.below a7 ao.lt;have d7:=bq.cell 7;simp at d7;by_cases bA:i<m
  ·have bu:i<aX.length:=(by have:=HM.out;omega);have bE:decide (i<m)=true:=decide_eq_true bA;have hr:=h1.below a7;obtain⟨b,off,u,rfl,bV,b8,bx,hcell,A2,c8,hu,h2⟩:=hr.at_ bu (by decide);rw[hu]at hcell;have d8:wr.cell? ⟨b,off+i,none⟩=some (Y A2 aX[i].length c8):=(by simpa[aN]using hcell 0 _ rfl);have ck:=gi S A2 aX[i].length c8 aX[i] wr rfl h2;rw[if_pos (HE.out _ (List.getElem_mem bu))]at ck;clear hcell bx hu ba c4 c5 bX c7;go_wp2_with fail;refine ck.mono ?_;clear ck;rintro e w2 ⟨rfl,b2⟩;go_wp2
   go_round
   case rel=>exact⟨i+1,rfl,by go_num,by omega,a7.trans (b2.mono a7.size)⟩
   case measure=>simp[intOf];omega
  ·obtain rfl:i=m:=(by omega);have bE:decide (i<i)=false:=(by simp);clear ba c4 c5 bX c7 bA;go_wp2;go_ret;exact⟨rfl,a6.trans (a7.mono a6.size)⟩
theorem wj{P:Prop}(h:P:=by
 have aU:=aV ar;have h0:=h.below aU;obtain⟨cb,M⟩:=am w.heap.size;rw[<-M]at hC;have aF:=Lib.hid M;have n1:=pU id w0 bv;have c1:=hC.cell 1;have c2:=hC.cell 2;have c3:=hC.cell 3;simp at c1 c2 c3;unfold PId.val at n1;have HM:=Lib.hid hm;have g1:decide ((ah:Int)<0)=false:=by rw[decide_eq_false_iff_not];omega
 have g2:decide ((32:Int)<=(ah:Int))=false:=by rw[decide_eq_false_iff_not];omega
 have HS:=Lib.hid az;subst az;clear h M hm;go_enter Tryz.func159,Tryz.ntmps159;go_wp2_with fail;rw[<-ar,<-aF.out];clear ar;refine n1.mono ?_;clear n1;rintro e w1 ⟨rfl,b1⟩;have a6:=aU.trans (b1.mono aU.size);have ao:=hC.below b1 hC.lt;have ba:=ao.cell 0;have c4:=ao.cell 4;have c5:=ao.cell 5;have bX:=ao.cell 6;have c7:=ao.cell 7;simp at ba c4 c5 bX c7;have h1:=h0.below b1;have ck:=h8 w1;go_wp2_with fail;refine ck.mono ?_;clear ck;rintro e w2 ⟨rfl,rfl⟩;go_wp2;go_ret;exact⟨rfl,a6⟩
 ):P:=h
theorem ua(S:Nat->Prop)(id:PId)(ah sub m:Nat)(aX:List (List aO))(A:Option Addr)(c:Nat)(w:World)(bv:id.au<16)(bc:ah<32)(hm:m=aX.length)(h:SliceAt aN w S A aX)(az:m=0):
 Calls Tryz.prog 159 #[aE #[ag 2,ag id.au,av id.aq,av id.ax,ag ah,av sub,aa,Y A m c]] w λe w'=>e=.returned (ag 0)/\Below w w w':=by
 obtain⟨w0,ar⟩:=am (w.alloc (.cells #[ag 2,ag id.au,av id.aq,av id.ax,ag ah,av sub,aa,Y A m c] 132));have hC:ai w0 w 132 #[ag 2,ag id.au,av id.aq,av id.ax,ag ah,av sub,aa,Y A m c]:=by rw[ar];exact ai.made _ _ _
 exact wj
theorem qO(S:Nat->Prop)(id:PId)(ah sub m:Nat)(aX:List (List aO))(A:Option Addr)(c:Nat)(w:World)(bv:id.au<16)(bc:ah<32)(hm:m=aX.length)(h:SliceAt aN w S A aX)(az:m=0):
 Calls Tryz.prog 159 #[aE #[ag 3,ag id.au,av id.aq,av id.ax,ag ah,av sub,aa,Y A m c]] w λe w'=>e=.returned (ag 0)/\Below w w w':=by
 obtain⟨w0,ar⟩:=am (w.alloc (.cells #[ag 3,ag id.au,av id.aq,av id.ax,ag ah,av sub,aa,Y A m c] 132));have hC:ai w0 w 132 #[ag 3,ag id.au,av id.aq,av id.ax,ag ah,av sub,aa,Y A m c]:=by rw[ar];exact ai.made _ _ _
 exact wj
theorem fV(S:Nat->Prop)(x:ae)(A:Option Addr)(c:Nat)(w:World)(hg:x.aH)(h:SliceAt aN w S A x.events):
 Calls Tryz.prog 159 #[aE (x.cellsOf A c).toArray] w λe w'=>e=.returned (ag 0)/\Below w w w':=by
 obtain⟨kind,id,ah,sub,aX⟩:=x;have hk:=hg.kind;have hp:=hg.yw;have aL:=hg.none;simp only at hk hp aL;rcases hk with rfl | rfl | rfl
 ·obtain rfl:=hp rfl;exact uT S id ah _ aX A c w hg.id.b hg.ah rfl h hg.len (λe he=>(hg.ev e he).1)
 ·obtain rfl:=aL (by decide);exact ua S id ah sub _ [] A c w hg.id.b hg.ah rfl h rfl
 ·obtain rfl:=aL (by decide);exact qO S id ah sub _ [] A c w hg.id.b hg.ah rfl h rfl
inductive bA where|ey(x:ae)(A:Option Addr)(c:Nat)|eq(n:Int)(x:ae)(A:Option Addr)(c:Nat)|ez(n:Int)|gJ(x:ae)(A:Option Addr)(n:Nat)(c:Nat)(b:Bool)|a3(x:ae)(A:Option Addr)(c:Nat)|iY(x:ae)(A:Option Addr)(n:Nat)(c:Nat)|dq(b:Bool)|cZ|gB(b:Bool)|eV(k:Int)(i:PId)(t:Int)(s:Int)(A:Option Addr)(n:Nat)(c:Nat)|dk(a:Int)(b:Int)(d:Int)(e:Int)(A:Option Addr)(n:Nat)(c:Nat)|dv(i:PId)(b:Bool)|bY(i:PId)|bT(n:Int)(A:Option Addr)(k:Nat)(c:Nat)(B:Option Addr)(l:Nat)(d:Nat)|bp(n:Int)(u:Value)(v:Value)|cO(a:Int)(b:Int)|ep
open bA
instance (x:ae)(A:Option Addr)(c:Nat):CoeDep bA (ey x A c) (Array Value):=⟨#[I af 3,I ak 0,I af x.kind,I af x.id.au,I ak x.id.aq,I ak x.id.ax,I af x.ah,I ak x.sub,aa,Y A x.events.length c,I af 0,I ak 0,I ak 0]⟩
instance (x:ae)(A:Option Addr)(c:Nat):CoeDep bA (ey x A c) Value:=⟨.agg #[I af 3,I ak 0,I af x.kind,I af x.id.au,I ak x.id.aq,I ak x.id.ax,I af x.ah,I ak x.sub,aa,Y A x.events.length c,I af 0,I ak 0,I ak 0]⟩
instance (n:Int)(x:ae)(A:Option Addr)(c:Nat):CoeDep bA (eq n x A c) (Array Value):=⟨#[I af 2,I ak n,I af x.kind,I af x.id.au,I ak x.id.aq,I ak x.id.ax,I af x.ah,I ak x.sub,aa,Y A x.events.length c,I af 0,I ak 0,I ak 0]⟩
instance (n:Int)(x:ae)(A:Option Addr)(c:Nat):CoeDep bA (eq n x A c) Value:=⟨.agg #[I af 2,I ak n,I af x.kind,I af x.id.au,I ak x.id.aq,I ak x.id.ax,I af x.ah,I ak x.sub,aa,Y A x.events.length c,I af 0,I ak 0,I ak 0]⟩
instance (n:Int):CoeDep bA (ez n) (Array Value):=⟨#[I af 1,I ak n,I af 0,I af 0,I ak 0,I ak 0,I af 0,I ak 0,aa,aa,I af 0,I ak 0,I ak 0]⟩
instance (n:Int):CoeDep bA (ez n) (List Value):=⟨[I af 1,I ak n,I af 0,I af 0,I ak 0,I ak 0,I af 0,I ak 0,aa,aa,I af 0,I ak 0,I ak 0]⟩
instance (n:Int):CoeDep bA (ez n) Value:=⟨.agg #[I af 1,I ak n,I af 0,I af 0,I ak 0,I ak 0,I af 0,I ak 0,aa,aa,I af 0,I ak 0,I ak 0]⟩
instance (x:ae)(A:Option Addr)(n:Nat)(c:Nat)(b:Bool):CoeDep bA (gJ x A n c b) (Array Value):=⟨#[I af x.kind,I af x.id.au,I ak x.id.aq,I ak x.id.ax,I af x.ah,I ak x.sub,aa,Y A n c,.bool b]⟩
instance (x:ae)(A:Option Addr)(n:Nat)(c:Nat)(b:Bool):CoeDep bA (gJ x A n c b) (List Value):=⟨[I af x.kind,I af x.id.au,I ak x.id.aq,I ak x.id.ax,I af x.ah,I ak x.sub,aa,Y A n c,.bool b]⟩
instance (x:ae)(A:Option Addr)(c:Nat):CoeDep bA (a3 x A c) (Array Value):=⟨#[I af x.kind,I af x.id.au,I ak x.id.aq,I ak x.id.ax,I af x.ah,I ak x.sub,aa,Y A x.events.length c]⟩
instance (x:ae)(A:Option Addr)(c:Nat):CoeDep bA (a3 x A c) (List Value):=⟨[I af x.kind,I af x.id.au,I ak x.id.aq,I ak x.id.ax,I af x.ah,I ak x.sub,aa,Y A x.events.length c]⟩
instance (x:ae)(A:Option Addr)(c:Nat):CoeDep bA (a3 x A c) Value:=⟨.agg #[I af x.kind,I af x.id.au,I ak x.id.aq,I ak x.id.ax,I af x.ah,I ak x.sub,aa,Y A x.events.length c]⟩
instance (x:ae)(A:Option Addr)(n:Nat)(c:Nat):CoeDep bA (iY x A n c) (Array Value):=⟨#[I af x.kind,I af x.id.au,I ak x.id.aq,I ak x.id.ax,I af x.ah,I ak x.sub,aa,Y A n c]⟩
instance (x:ae)(A:Option Addr)(n:Nat)(c:Nat):CoeDep bA (iY x A n c) (List Value):=⟨[I af x.kind,I af x.id.au,I ak x.id.aq,I ak x.id.ax,I af x.ah,I ak x.sub,aa,Y A n c]⟩
instance (b:Bool):CoeDep bA (dq b) (Array Value):=⟨#[I af 0,I af 0,I ak 0,I ak 0,I af 0,aa,I af 0,I af 0,.bool b]⟩
instance (b:Bool):CoeDep bA (dq b) Value:=⟨.agg #[I af 0,I af 0,I ak 0,I ak 0,I af 0,aa,I af 0,I af 0,.bool b]⟩
instance :CoeDep bA (cZ) (Array Value):=⟨#[I af 0,I af 0,I ak 0,I ak 0,I af 0,I ak 0,aa,aa]⟩
instance :CoeDep bA (cZ) Value:=⟨.agg #[I af 0,I af 0,I ak 0,I ak 0,I af 0,I ak 0,aa,aa]⟩
instance (b:Bool):CoeDep bA (gB b) (Array Value):=⟨#[I af 0,I af 0,I ak 0,I ak 0,I af 0,I ak 0,aa,aa,.bool b]⟩
instance (b:Bool):CoeDep bA (gB b) (List Value):=⟨[I af 0,I af 0,I ak 0,I ak 0,I af 0,I ak 0,aa,aa,.bool b]⟩
instance (b:Bool):CoeDep bA (gB b) Value:=⟨.agg #[I af 0,I af 0,I ak 0,I ak 0,I af 0,I ak 0,aa,aa,.bool b]⟩
instance (k:Int)(i:PId)(t:Int)(s:Int)(A:Option Addr)(n:Nat)(c:Nat):CoeDep bA (eV k i t s A n c) (Array Value):=⟨#[I af k,I af i.au,I ak i.aq,I ak i.ax,I af t,I ak s,aa,Y A n c]⟩
instance (a:Int)(b:Int)(d:Int)(e:Int)(A:Option Addr)(n:Nat)(c:Nat):CoeDep bA (dk a b d e A n c) (Array Value):=⟨#[I af a,I af b,I af d,I af e,Y A n c,aa]⟩
instance (a:Int)(b:Int)(d:Int)(e:Int)(A:Option Addr)(n:Nat)(c:Nat):CoeDep bA (dk a b d e A n c) Value:=⟨.agg #[I af a,I af b,I af d,I af e,Y A n c,aa]⟩
instance (i:PId)(b:Bool):CoeDep bA (dv i b) (Array Value):=⟨#[I af i.au,I ak i.aq,I ak i.ax,.bool b]⟩
instance (i:PId)(b:Bool):CoeDep bA (dv i b) (List Value):=⟨[I af i.au,I ak i.aq,I ak i.ax,.bool b]⟩
instance (i:PId)(b:Bool):CoeDep bA (dv i b) Value:=⟨.agg #[I af i.au,I ak i.aq,I ak i.ax,.bool b]⟩
instance (i:PId):CoeDep bA (bY i) (Array Value):=⟨#[I af i.au,I ak i.aq,I ak i.ax]⟩
instance (i:PId):CoeDep bA (bY i) (List Value):=⟨[I af i.au,I ak i.aq,I ak i.ax]⟩
instance (n:Int)(A:Option Addr)(k:Nat)(c:Nat)(B:Option Addr)(l:Nat)(d:Nat):CoeDep bA (bT n A k c B l d) (Array Value):=⟨#[I ak n,Y A k c,Y B l d,aa]⟩
instance (n:Int)(A:Option Addr)(k:Nat)(c:Nat)(B:Option Addr)(l:Nat)(d:Nat):CoeDep bA (bT n A k c B l d) (List Value):=⟨[I ak n,Y A k c,Y B l d,aa]⟩
instance (n:Int)(A:Option Addr)(k:Nat)(c:Nat)(B:Option Addr)(l:Nat)(d:Nat):CoeDep bA (bT n A k c B l d) Value:=⟨.agg #[I ak n,Y A k c,Y B l d,aa]⟩
instance (n:Int)(u:Value)(v:Value):CoeDep bA (bp n u v) (Array Value):=⟨#[I ak n,u,v,aa]⟩
instance (n:Int)(u:Value)(v:Value):CoeDep bA (bp n u v) Value:=⟨.agg #[I ak n,u,v,aa]⟩
instance (a:Int)(b:Int):CoeDep bA (cO a b) (Array Value):=⟨#[I af a,I ak b,aa]⟩
instance (a:Int)(b:Int):CoeDep bA (cO a b) (List Value):=⟨[I af a,I ak b,aa]⟩
instance (a:Int)(b:Int):CoeDep bA (cO a b) Value:=⟨.agg #[I af a,I ak b,aa]⟩
instance :CoeDep bA (ep) (Array Value):=⟨#[I af 0,I ak 0,I ak 0]⟩
instance :CoeDep bA (ep) Value:=⟨.agg #[I af 0,I ak 0,I ak 0]⟩
end Go.Proofs.YtgblliofomgggaaGreat
