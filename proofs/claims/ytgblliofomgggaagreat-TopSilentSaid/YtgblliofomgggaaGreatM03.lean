import Derived.Test.YtgblliofomgggaaGreatRows
import Derived.Deep.QuietTactic
import Derived.BigQuiet
import Derived.RangeFuncBox
import Derived.RangeFuncLeaves
import Derived.RangeFuncNested
import Derived.RangeFuncBound
import Derived.RangeFuncCalls
import Derived.Shelf.Abstract
import Derived.Shelf.RegionOpen
import Derived.OwnWalkIn
import Derived.TacticsInMore
import Derived.LoopNIn
import Derived.LoopIn
import Derived.Conc.LoneSelect
import Derived.KernelRfl
import Derived.Laws.Rows
import Derived.DeepKeys4
import Derived.Maps.Keyed
import Derived.Conc.LoneSelectN
import Derived.Deep.RegionHeld3
import Derived.Test.YtgblliofomgggaaGreatM01
import Derived.Test.YtgblliofomgggaaGreatM02
namespace Go.Proofs.YtgblliofomgggaaGreat
set_option maxRecDepth 100000
set_option maxHeartbeats 2000000
open a7
open Go.IntKind renaming i64 -> af,u64 -> ak
open Go.Value renaming int -> I,slice -> Y,pointer -> aL,agg -> aE
namespace Tr
open Go.RowKit Go.Shelf
open Go.Proofs.YtgblliofomgggaaGreat.Old
def ll(p:Nat->Nat)(n:Nat):List Nat:=if h:n=0 then [0]else n::ll p (min (p n) (n-1))
 termination_by n
 decreasing_by omega
theorem yv(p:Nat->Nat):ll p 0=[0]:=by rw[ll];simp
theorem xw(p:Nat->Nat){n:Nat}(h:0<n)(hp:p n<n):ll p n=n::ll p (p n):=by
 rw[ll,dif_neg (by omega),show min (p n) (n-1)=p n by omega]
theorem xT(p:Nat->Nat)(n:Nat):∃t,ll p n=n::t:=by
 rw[ll];split
 ·rename_i h;exact⟨[],by rw[h]⟩
 ·exact⟨_,rfl⟩
theorem xp(p:Nat->Nat)(n:Nat):n∈ll p n:=by
 obtain⟨t,h⟩:=xT p n;rw[h];exact List.mem_cons_self
def dep(p:Nat->Nat)(n:Nat):Nat:=(ll p n).length-1
def fE(p:Nat->Nat)(a b:Nat):Bool:=decide (a∈ll p b)
theorem zE{p:Nat->Nat}{a b:Nat}:fE p a b=true↔a∈ll p b:=by unfold fE;simp
theorem zc{p:Nat->Nat}{a b:Nat}:fE p a b=false↔¬a∈ll p b:=by unfold fE;simp
def Good(p:Nat->Nat)(n:Nat):Prop:=∀k,1<=k->k<n->p k<k
def kids(p:Nat->Nat)(n k:Nat):List Nat:=(List.range n).filter λj=>decide (1<=j/\p j=k)
theorem e0{p:Nat->Nat}{n k j:Nat}:j∈kids p n k↔j<n/\1<=j/\p j=k:=by
 unfold kids;simp
theorem mM(p:Nat->Nat)(n k:Nat):(kids p n k).length<=n:=by
 unfold kids;have:=List.length_filter_le (λj=>decide (1<=j/\p j=k)) (List.range n);simpa using this
theorem sn{v v':Value}(h:v=v'):Ending.returned v=Ending.returned v':=by rw[h]
def kH(w:World)(B:Nat)(A:Option Addr)(n:Nat)(f:Nat->Int):Prop:=
 n=0\/∃b off,A=some ⟨b,off,none⟩/\b<B/\∀k,k<n->w.cell? ⟨b,off+k,none⟩=some (I af (f k))
theorem kH.below{w w':World}{B:Nat}{A:Option Addr}{n:Nat}{f:Nat->Int}(h:kH w B A n f)(a7:Below B w w'):kH w' B A n f:=by
 rcases h with h | ⟨b,off,hA,hB,hc⟩
 ·exact .inl h
 ·exact .inr ⟨b,off,hA,hB,λk hk=>(a7.cell (p:=⟨b,off+k,none⟩) hB).trans (hc k hk)⟩
theorem kH.more{w:World}{B B':Nat}{A:Option Addr}{n:Nat}{f:Nat->Int}(h:kH w B A n f)(a7:B<=B'):kH w B' A n f:=by
 rcases h with h | ⟨b,off,hA,hB,hc⟩
 ·exact .inl h
 ·exact .inr ⟨b,off,hA,by omega,hc⟩
structure iy (n:Nat) (f:Nat->Int):Prop where
 lo:1<=n
 hi:n<=16
 top:f 0= -1
 par:∀k,1<=k->k<n->0<=f k/\f k<k
def c6(w:World)(B:Nat)(A:Option Addr)(n:Nat)(p:Nat->Nat):Prop:=
 1<=n/\n<=16/\Good p n/\∃b off,A=some ⟨b,off,none⟩/\b<B/\w.cell? ⟨b,off,none⟩=some (I af (-1))/\∀k,1<=k->k<n->w.cell? ⟨b,off+k,none⟩=some (I af (p k))
theorem c6.below{w w':World}{B n:Nat}{A:Option Addr}{p:Nat->Nat}(h:c6 w B A n p)(a7:Below B w w'):c6 w' B A n p:=by
 obtain⟨h1,h2,hg,b,off,hA,hB,h0,hc⟩:=h;exact⟨h1,h2,hg,b,off,hA,hB,(a7.cell (p:=⟨b,off,none⟩) hB).trans h0,λk k1 k2=>(a7.cell (p:=⟨b,off+k,none⟩) hB).trans (hc k k1 k2)⟩
theorem c6.more{w:World}{B B' n:Nat}{A:Option Addr}{p:Nat->Nat}(h:c6 w B A n p)(a7:B<=B'):c6 w B' A n p:=by
 obtain⟨h1,h2,hg,b,off,hA,hB,hc⟩:=h;exact⟨h1,h2,hg,b,off,hA,by omega,hc⟩
theorem kH.tree{w:World}{B n:Nat}{A:Option Addr}{f:Nat->Int}(h:kH w B A n f)(ht:iy n f):c6 w B A n (λk=>(f k).toNat):=by
 have cJ:=ht.lo;rcases h with h | ⟨b,off,hA,hB,hc⟩
 ·omega
 ·refine⟨ht.lo,ht.hi,λk k1 k2=>?_,b,off,hA,hB,?_,λk k1 k2=>?_⟩
  ·have:=ht.par k k1 k2;show(f k).toNat<k;omega
  ·have:=hc 0 (by omega);rw[ht.top]at this;simpa using this
  ·have h1:=ht.par k k1 k2;rw[hc k k2];show some (Value.int .i64 (f k))=some (I af ((f k).toNat:Int));rw[Int.toNat_of_nonneg h1.1]
theorem jJ(A:Option Addr)(c n B:Nat)(p:Nat->Nat)(w:World)(h:c6 w B A n p):
 Calls Tryz.prog 18 #[Y A n c] w λe w'=>e=.returned (ag 0)/\w=w':=by
 obtain⟨h1,h2,hg,b,off,rfl,hB,h0,hc⟩:=h;have e1:(0:Int)<(n:Int):=by omega
 have HC:=Lib.hid hc;clear hc;go_enter Tryz.func18,Tryz.ntmps18;go_wp2
 go_loop [3] (λi=>∃k:Nat,1<=k/\k<=n/\i=I af k) (λi=>n- (intOf i).toNat)
 case atStart=>exact⟨1,by omega,by omega,rfl⟩
 case round=>
  obtain⟨k,k1,hk,rfl⟩:=hrel;by_cases bA:k<n
  ·have ck:=HC.out k k1 bA;have hp:=hg k k1 bA;generalize p k=x at ck hp;go_wp2
   go_round
   case rel=>exact⟨k+1,by omega,by omega,by go_num⟩
   case measure=>simp[intOf];omega
  ·go_wp2;go_ret;exact⟨rfl,rfl⟩
theorem tI(A:Option Addr)(c n B:Nat)(f:Nat->Int)(w:World)(h:kH w B A n f)(hm:n<=9223372036854775807)(ht:¬iy n f):
 Calls Tryz.prog 18 #[Y A n c] w λe w'=>e=.returned (ag 120)/\w=w':=by
 rcases(show n<1\/16<n\/(1<=n/\n<=16) by omega)with h1 | h1 | ⟨h1,h2⟩
 ·clear h ht;go_enter Tryz.func18,Tryz.ntmps18;go_wp2;go_ret;exact⟨rfl,rfl⟩
 ·clear h ht;go_enter Tryz.func18,Tryz.ntmps18;go_wp2;go_ret;exact⟨rfl,rfl⟩
 rcases h with h | ⟨b,off,rfl,hB,hc⟩
 ·omega
 have e1:(0:Int)<(n:Int):=by omega
 have ba:=hc 0 (by omega);rw[Nat.add_zero]at ba;have HC:=Lib.hid hc;clear hc;by_cases aa:f 0= -1
 ·rw[aa]at ba;have HT:Hid (¬∀k,1<=k->k<n->0<=f k/\f k<k):=λhp=>ht ⟨h1,h2,aa,hp⟩;clear ht aa;go_enter Tryz.func18,Tryz.ntmps18;go_wp2
  go_loop [3] (λi=>∃k:Nat,1<=k/\k<=n/\i=I af k/\Hid (∀j,1<=j->j<k->0<=f j/\f j<j)) (λi=>n- (intOf i).toNat)
  case atStart=>exact⟨1,by omega,by omega,rfl,λj _ _=>by omega⟩
  case round=>
   obtain⟨k,k1,hk,rfl,J⟩:=hrel;by_cases bA:k<n
   ·have ck:=HC.out k bA;by_cases M:0<=f k/\f k<k
    ·have ad:Hid (∀j,1<=j->j<k+1->0<=f j/\f j<j):=λj j1 j2=>by
      by_cases e:j=k
      ·rw[e];exact M
      ·exact J.out j j1 (by omega)
     obtain⟨g1,g2⟩:=M;generalize f k=x at ck g1 g2;go_wp2
     go_round
     case rel=>exact⟨k+1,by omega,by omega,by go_num,ad⟩
     case measure=>simp[intOf];omega
    ·rcases(show f k<0\/(0<=f k/\(k:Int)<=f k) by omega)with g1 | ⟨g1,g2⟩
     all_goals
      clear M;generalize f k=x at*;go_wp2;go_ret;exact⟨rfl,rfl⟩
   ·exfalso;refine HT.out λj j1 j2=>J.out j j1 (by omega)
 ·have ay:(f 0== -1)=false:=(by simpa using aa);have ae:(f 0 != -1)=true:=(by simpa using aa);clear ht aa;generalize f 0=x at*;go_enter Tryz.func18,Tryz.ntmps18;go_wp2;go_ret;exact⟨rfl,rfl⟩
theorem jl(A:Option Addr)(c n B:Nat)(p:Nat->Nat)(w:World)(h:c6 w B A n p)(k:Nat)(hk:k<n):
 Calls Tryz.prog 266 #[Y A n c,ag k] w λe w'=>e=.returned (.bool true)/\w=w':=by
 have e1:(k:Int)<(n:Int):=by omega
 go_enter Tryz.func266,Tryz.ntmps266;go_wp2_with fail;refine(jJ A c n B p w h).mono ?_;rintro e w1 ⟨rfl,rfl⟩;go_wp2;go_ret;exact⟨rfl,rfl⟩
theorem BC(A:Option Addr)(c n B:Nat)(p:Nat->Nat)(w:World)(h:c6 w B A n p)(a b:Nat)(ha:a<n)(a7:b<n):
 Calls Tryz.prog 268 #[Y A n c,ag a,ag b] w λe w'=>e=.returned (.bool (fE p a b))/\w=w':=by
 have J:=h;obtain⟨h1,h2,hg,aN,off,rfl,hB,h0,hc⟩:=h;have HC:=Lib.hid hc;have HT:=Lib.hid J;clear hc J;go_enter Tryz.func268,Tryz.ntmps268;go_wp2_with fail;go_step3;go_wp2_with fail;refine(jl _ c n B p w HT.out a ha).mono ?_;rintro e w1 ⟨rfl,rfl⟩;go_wp2_with fail;refine(jl _ c n B p w HT.out b a7).mono ?_;rintro e w1 ⟨rfl,rfl⟩;go_wp2;go_step3;go_wp2
 go_loop [2,7] (λb' m'=>m'=.bool false/\∃i:Int,b'=I af i/\ -1<=i/\i<n/\Hid ((0<=i->fE p a i.toNat=fE p a b)/\(i= -1->fE p a b=false))) (λb' _=>(intOf b'+1).toNat)
 case atStart=>exact⟨rfl,b,rfl,by omega,by omega,⟨λ_=>by simp,λh=>by omega⟩⟩
 case round=>
  obtain⟨rfl,i,rfl,ad,ah,H⟩:=hrel;by_cases bA:0<=i
  ·obtain⟨j,rfl⟩:∃j:Nat,i=j:=⟨i.toNat,by omega⟩;have hj:j<n:=(by omega);have hu:=H.out.1 bA;rw[Int.toNat_natCast]at hu;by_cases aR:a=j
   ·have hy:fE p a b=true:=(by rw[<-hu,zE,aR];exact xp p j);have HY:=Lib.hid hy;have e1:((a:Int)==(j:Int))=true:=(by simp[aR]);clear hu hy aR H;go_wp2
    try rw[Exit.noGoto_ret]
    go_ret;exact⟨sn (by show Value.bool _=_;rw[HY.out]),rfl⟩
   ·have e1:((a:Int)==(j:Int))=false:=(by simp;omega);by_cases aK:0<j
    ·have cj:=HC.out j aK hj;have hp:=hg j aK hj;have aL:fE p a (p j)=fE p a b:=by
      rw[<-hu];unfold fE;rw[xw p aK hp];simp[aR]
     generalize p j=x at*;have H2:Hid ((0<=(x:Int)->fE p a (x:Int).toNat=fE p a b)/\((x:Int)= -1->fE p a b=false)):=⟨λ_=>by simpa using aL,λh=>by omega⟩;clear H hu aL aR;go_wp2
     go_round
     case rel=>exact⟨rfl,x,rfl,by omega,by omega,H2⟩
     case measure=>simp[intOf];omega
    ·have aL:fE p a b=false:=by
      rw[<-hu,show j=0 by omega,zc,yv];simp;omega
     have H2:Hid ((0<=(-1:Int)->fE p a (-1:Int).toNat=fE p a b)/\((-1:Int)= -1->fE p a b=false)):=⟨λh=>by omega,λ_=>aL⟩;have cj:w.cell? ⟨aN,off+j,none⟩=some (I af (-1)):=(by rw[show j=0 by omega,Nat.add_zero];exact h0);clear H hu aL aR h0;go_wp2
     go_round
     case rel=>exact⟨rfl,-1,rfl,by omega,by omega,H2⟩
     case measure=>simp[intOf]
  ·have hy:=H.out.2 (by omega);have HY:=Lib.hid hy;clear hy H;go_wp2
   try rw[Exit.noGoto_ret]
   go_ret;exact⟨sn (by show Value.bool _=_;rw[HY.out]),rfl⟩
def DH(p:Nat->Nat)(n:Nat)(a b:Int):Bool:=decide (0<=a/\a<n/\0<=b/\b<n)&&fE p a.toNat b.toNat
theorem Tryz.qe:(Tryz.prog.info? 3).map (λi=>(i.zero,i.size,i.bytes))=some (some (I af 0),1,8):=by kernel_rfl
def fl(l:List Nat):List Value:=l.map λk:Nat=>.int .i64 (k:Int)
theorem oO(a b:List Nat):fl (a++b)=fl a++fl b:=by simp[fl]
attribute [local go_sem] Oper.semAt_some
def Kept(N q:Nat)(W W':World):Prop:=∀b,b<N->b≠q->W'.heap[b]? =W.heap[b]?
theorem Kept.refl(N q:Nat)(W:World):Kept N q W W:=λ_ _ _=>rfl
theorem Kept.trans{N q:Nat}{A B C:World}(h:Kept N q A B)(k:Kept N q B C):Kept N q A C:=λb h1 h2=>(k b h1 h2).trans (h b h1 h2)
theorem Kept.cell{N q:Nat}{W W':World}(h:Kept N q W W'){b o:Nat}(a7:b<N)(hq:b≠q):W'.cell? ⟨b,o,none⟩=W.cell? ⟨b,o,none⟩:=World.cell?_of_block (w:=W) (h b a7 hq)
theorem Kept.put{N q:Nat}(W:World)(l:Nat)(o o':Obj)(hl:N<=l)(I:W.heap[l]? =some o)(_:o.isCells=false)(_:o.isWalk=false):Kept N q W (W.putObj l o'):=λb a7 _=>
 (Below.block (belowK_b (n₀:=N) (w:={W with heap:=W.heap.extract 0 N}) (by simp;have:=(Array.getElem?_eq_some_iff.1 I).1;omega) W l o o' (by simp;omega) I (by assumption) (by assumption)) b a7)
def g6(p:Nat->Nat)(k i:Nat):List Nat:=(List.range i).filter λj=>decide (1<=j/\p j=k)
theorem tL(p:Nat->Nat)(k i:Nat)(h1:1<=i)(h2:p i=k):g6 p k (i+1)=g6 p k i++[i]:=by
 unfold g6;rw[List.range_succ,List.filter_append];simp[h1,h2]
theorem mv(p:Nat->Nat)(k i:Nat)(h:¬ (1<=i/\p i=k)):g6 p k (i+1)=g6 p k i:=by
 unfold g6;rw[List.range_succ,List.filter_append];simp;intro h1 h2;exact h ⟨h1,h2⟩
theorem oP(p:Nat->Nat)(k i:Nat):(g6 p k i).length<=i:=by
 unfold g6;have:=List.length_filter_le (λj=>decide (1<=j/\p j=k)) (List.range i);simpa using this
theorem xv(F:Fence)(d:Nat)(ao:F.fn 297)(ad:F.round=none)(hd:1<=d)(l Bs Bn N q:Nat)(A:Option Addr)(c n B:Nat)(p:Nat->Nat)(k:Nat)(J Jx:List Nat->World->Prop)
 (hY:∀pre x W,J pre W->pre.length<n->YieldAt F (d-1) Tryz.prog l #[ag ((x:Nat):Int)] W λe W'=>
  (e=.returned (.bool true)/\J (pre++[x]) W'/\Kept N q W W')\/(e=.returned (.bool false)/\Jx (pre++[x]) W'))
 (W:World) (av:W.cell? (aj Bs)=some (Y A n c)) (ak:W.cell? (aj Bn)=some (I af (k:Int))) (aq:Bn<N) (aX:Bn≠q) (bp:B<=q) (aw:q<N) (ht:c6 W B A n p) (h0:J [] W):
 CallsIn F d Tryz.prog 297 #[.func (.yield l) #[] #[],aj Bs,aj Bn] W λe W'=>(∃v,e=.returned v)/\
  ((∃ys,ys=kids p n k/\J ys W')\/(∃pre,True/\Jx pre W')):=by
 obtain⟨h1,au,hg,aN,off,rfl,hB,aa,hc⟩:=ht;have HC:=Lib.hid hc;have am:=Lib.hid aa;have ar:=Lib.hid ak;clear hc aa ak;refine callsIn_of_wp Tryz.func297 rfl ao ?_ ad;simp only[Tryz.ntmps297,List.size_toArray,List.length_cons,List.length_nil,Nat.reduceAdd,Nat.reduceSub,Array.replicate_succ,Array.replicate_zero,List.push_toArray,List.append_toArray,List.nil_append,List.cons_append]
 gi_wp2
 gi_loopw [8] (λi wr=>∃j:Nat,j<=n/\i=I af j/\J (g6 p k j) wr/\Kept N q W wr) (λi _=>n- (intOf i).toNat)
 case atStart=>exact⟨0,Nat.zero_le _,rfl,h0,Kept.refl _ _ _⟩
 case round=>
  obtain⟨j,hj,rfl,ae,hk⟩:=hrel;have cn:wr.cell? (aj Bn)=some (I af (k:Int)):=(hk.cell aq aX).trans ar.out;by_cases bA:j<n
  ·have bE:(j:Int)<(n:Int):=(by omega);by_cases aK:j=0
   ·subst aK;have ba:wr.cell? ⟨aN,off,none⟩=some (I af (-1)):=(hk.cell (by omega) (by omega)).trans am.out;have e1:((-1:Int)==(k:Int))=false:=(by rw[beq_eq_false_iff_ne];omega);have ah:J (g6 p k 1) wr:=by rw[mv p k 0 (by omega)];exact ae
    gi_wp2
    refine⟨λ_ h=>(by cases h),?_⟩
    gi_wp2
    go_roundw
    case rel=>exact⟨1,by omega,by simp,ah,hk⟩
    case measure=>simp[intOf];omega
   ·have cj:wr.cell? ⟨aN,off+j,none⟩=some (I af (p j:Int)):=(hk.cell (by omega) (by omega)).trans (HC.out j (by omega) bA);by_cases he:p j=k
    ·have e1:(((p j:Nat):Int)==(k:Int))=true:=(by rw[beq_iff_eq];omega);have hlen:=oP p k j;obtain⟨fn,tmps,assign,body,hy,aI⟩:=hY _ j wr ae (by omega);have hh:=Lib.hid (tL p k j (by omega) he);clear he;generalize p j=x at*
     gi_wp2
     refine aI.mono ?_;rintro e W3 (⟨rfl,M,cp⟩ | ⟨rfl,ai⟩)
     ·gi_wp2
      go_roundw
      case rel=>exact⟨j+1,by omega,by go_num,by rw[hh.out];exact M,hk.trans cp⟩
      case measure=>simp[intOf];omega
     ·gi_wp2
      refine bodyPost_ret (results_none rfl _ _ _) rfl ?_;exact⟨⟨_,rfl⟩,.inr ⟨_,trivial,ai⟩⟩
    ·have e1:(((p j:Nat):Int)==(k:Int))=false:=(by rw[beq_eq_false_iff_ne];omega);have ah:J (g6 p k (j+1)) wr:=(by rw[mv p k j (by omega)];exact ae);clear he;generalize p j=x at*
     gi_wp2
     refine⟨λ_ h=>(by cases h),?_⟩
     gi_wp2
     go_roundw
     case rel=>exact⟨j+1,by omega,by go_num,ah,hk⟩
     case measure=>simp[intOf];omega
  ·obtain rfl:j=n:=by omega
   gi_wp2
   go_end0
   exact⟨⟨_,rfl⟩,.inl ⟨_,rfl,ae⟩⟩
theorem zP(F:Fence)(d:Nat)(I:F.fn 267)(ad:F.round=none)(A:Option Addr)(c n:Nat)(k:Int)(w:World):
 CallsIn F d Tryz.prog 267 #[Y A n c,ag k] w λe w'=>e=.returned (.func (.func 297) #[] #[aj w,aL (some ⟨w.heap.size+1,0,none⟩)])/\w'=(w.alloc (.cells #[Y A n c] 22)).alloc (.cells #[ag k] 3):=by
 refine callsIn_of_wp Tryz.func267 rfl I ?_ ad;simp only[Tryz.ntmps267,List.size_toArray,List.length_cons,List.length_nil,Nat.reduceAdd,Nat.reduceSub,Array.replicate_succ,Array.replicate_zero,List.push_toArray,List.append_toArray,List.nil_append,List.cons_append]
 gi_wp2
 go_ret;exact⟨rfl,rfl⟩
theorem tD(A:Option Addr)(c n:Nat)(p:Nat->Nat)(k:Nat)(w:World)(ht:c6 w w A n p)(hk:k<n):
 CallsIn Fence.wide 5 Tryz.prog 220 #[Y A n c,ag k] w λe w'=>∃A' c',e=.returned (Y A' (kids p n k).length c')/\
  w'.ownsRow w 3 1 (Y A' (kids p n k).length c') (kids p n k).length (fl (kids p n k))/\Below w w w':=by
 obtain⟨i0,bM,bL,ae,aa⟩:=info_parts Tryz.qe;have au:=ht.2.1;have HT:=Lib.hid ht;clear ht;refine callsIn_of_wp_marks Tryz.func220 rfl trivial ?_ rfl;simp only[Tryz.ntmps220,List.size_toArray,List.length_cons,List.length_nil,Nat.reduceAdd,Nat.reduceSub,Array.replicate_succ,Array.replicate_zero,List.push_toArray,List.append_toArray,List.nil_append,List.cons_append]
 gi_wp2_with (first
  | (refine⟨trivial,?_⟩;gi_at_call 266;refine(callsIn_wide.2 (jl A c n w p w HT.out k hk)).mono ?_;rintro e w1 ⟨rfl,rfl⟩)
  | (refine⟨trivial,?_⟩;gi_at_call 267;refine(zP Fence.wide _ trivial rfl A c n k _).mono ?_;rintro e w1 ⟨rfl,rfl⟩))
 have bO:=Boxed.new w 22 (Y none 0 0);have bS:=Boxed.new (w.alloc (.cells #[Y none 0 0] 22)) 22 (Y A n c);have bN:=Boxed.new ((w.alloc (.cells #[Y none 0 0] 22)).alloc (.cells #[Y A n c] 22)) 3 (ag (k:Int));rw[World.size_alloc]at bS bN;rw[World.size_alloc]at bN;have aR:Below w w (((w.alloc (.cells #[Y none 0 0] 22)).alloc (.cells #[Y A n c] 22)).alloc (.cells #[ag (k:Int)] 3)):=(((Below.refl _ w).alloc (Nat.le_refl _) _).alloc (by simp) _).alloc (by simp;omega) _;have hL:=HT.out.below aR;have ai:SeqStopsK Fence.wide 4 Tryz.prog 297 #[aL (some ⟨w.heap.size+1,0,none⟩),aL (some ⟨w.heap.size+1+1,0,none⟩)] (λx:Nat=>#[Value.int .i64 (x:Int)]) (Kept (w.heap.size+3) w) (λys=>ys=kids p n k) (λ_=>True) n
  (((w.alloc (.cells #[Y none 0 0] 22)).alloc (.cells #[Y A n c] 22)).alloc (.cells #[ag (k:Int)] 3)):=λl J Jx W aP _ _ hY h0=>
  xv Fence.wide 4 trivial rfl (by omega) l (w.heap.size+1) (w.heap.size+1+1) (w.heap.size+3) w A c n w p k J Jx hY W
   ((aP.cell (p:=⟨w.heap.size+1,0,none⟩) (by simp)).trans (bS.alloc _).cell) ((aP.cell (p:=⟨w.heap.size+1+1,0,none⟩) (by simp)).trans bN.cell) (by omega) (by omega) (Nat.le_refl _) (by omega) (hL.below (aP.mono (by simp;omega))) h0
 refine wpIn_rangeFunc_ownG rfl (by omega) (gf:=297) (lb:=#[aL (some ⟨w.heap.size+1,0,none⟩),aL (some ⟨w.heap.size+1+1,0,none⟩)]) rfl trivial (enters_of Tryz.func297 (by kernel_rfl) rfl)
  ai (λh k=>h.trans k) (λW l o o' hl h h1 h2=>Kept.put W l o o' (by simp at hl;omega) h h1 h2) (Below.refl _ _) (λ_=>rfl)
  (λpre W=>(∃v,Boxed W w 22 v/\W.ownsRow (w.heap.size+3) 3 1 v pre.length (fl pre)/\∃A' c',v=Y A' pre.length c')/\Boxed W (w.heap.size+1+1) 3 (ag (k:Int))/\Below w w W)
  (λ_ _ _=>False)
  (OwnFrom.and (Own.from (holdsRow_own (w.heap.size+3) w 22 3 1 (λpre:List Nat=>pre.length) (λpre=>fl pre) (λpre v=>∃A' c',v=Y A' pre.length c')) _) (OwnFrom.and (Own.from (boxed_own _ _ _) _) (ownFrom_below (Nat.le_refl _) (by simp;omega))))
  (λ_ _ _ _ _ hs _ _=>hs)
  ⟨⟨_,(bO.alloc _).alloc _,World.ownsRow_nil _ _ _ _,none,0,rfl⟩,bN,aR⟩
  (λx=>{tmps:=#[Y A n c,I af k,undef,undef,Y none 0 0,.pointer (aj w),I af (x:Int),Y A n c,I af k,.bool true,.bool false,Y A n c,I af k,
   .func (.func 297) #[] #[aL (some ⟨w.heap.size+1,0,none⟩),aL (some ⟨w.heap.size+1+1,0,none⟩)],I af (x:Int),undef,undef,undef,undef,undef],defers:=[]}) ?assign ?body ?done ?stop
 case assign=>
  intro l x W K ad
  gi_wp2
  exact ad
 case body=>
  rintro l pre x W ⟨⟨v,hv,aQ,A0,ba,rfl⟩,hN,hB⟩ bA;have hc:=hv.cell;have bJ:w.heap.size+3<=W.heap.size:=by have:=hN.lt;omega
  gi_wp2_with (gi_at_builtin;refine wpListIn_append_own _ rfl _ _ 22 rfl (w.heap.size+3) 3 i0 (ag 0) 1 8 Tryz.underlying22 bM bL ae aa rfl (by decide) _ _ _ rfl (aQ.alloc _) (aj W) 1 1 [ag (x:Int)] rfl rfl (cell_one_new _ _ _) (by simp[Value.oneCell']) (by unfold maxLen;omega) (by omega) (by simp;omega) ?_;intro v' w1 M am _;obtain⟨g',av,rfl⟩:=ownsRow_succ M;obtain⟨aO,aw,ar,aq,aG⟩:=hv.appended (n₀:=w.heap.size) (by decide) (dt aQ (by omega)) hB.size (Nat.le_refl _) (dt M (by omega)) am;have bU:=aO.cell;have cv:=aO.frozen)
  have ak:Kept (w.heap.size+3) w W (w1.setCell (aj w) (Y (aj g') (pre.length+1) av)):=λb a7 hq=>
   (Below.heap_setCell w1 (aj w) _ b hq).trans ((am.block b (by simp;omega) (λe=>by have:=(aQ.lt b e.symm).1;omega)).trans (Below.heap_alloc W _ b (by omega)))
  have ah:=dU M (p:=⟨w.heap.size,0,none⟩) (λe=>by have:=(M.lt w e.symm).1;omega) (Y (aj g') (pre.length+1) av);have ao:fl pre++[Value.int .i64 (x:Int)]=fl (pre++[x]):=(by rw[oO];rfl);have hlen:(pre++[x]).length=pre.length+1:=(by simp);rw[ao]at ah;exact⟨aq.from _,ak,⟨_,aw,by rw[hlen];exact ah,_,_,by rw[hlen]⟩,(ak _ (by omega) (by omega)).trans hN,hB.trans aG⟩
 case done=>
  rintro D ys W hD rfl ⟨⟨v,hv,aQ,A0,ba,rfl⟩,_,hB⟩ ad;have hc:=hv.cell
  gi_wp2
  refine⟨by simp,.inl ⟨_,_,rfl,run_takeDeferred ad,?_⟩⟩;exact⟨_,results_tmp rfl _ _ _,A0,ba,rfl,ownsRow_putObj (dt aQ (by omega)) _ ad rfl,hB.trans (belowK_b (w:=w) (Nat.le_refl _) W D _ _ (by simp at hD;omega) ad rfl rfl)⟩
 case stop=>
  rintro D c pre W _ _ h _;exact h.elim
theorem yb(A:Option Addr)(c n:Nat)(p:Nat->Nat)(k:Nat)(w:World)(ht:c6 w w A n p)(hk:k<n):
 Calls Tryz.prog 220 #[Y A n c,ag k] w λe w'=>∃A' c',e=.returned (Y A' (kids p n k).length c')/\
  w'.ownsRow w 3 1 (Y A' (kids p n k).length c') (kids p n k).length (fl (kids p n k))/\Below w w w':=callsIn_wide.1 (tD A c n p k w ht hk)
end Tr
namespace Nt
open Go.Conc Go.RowKit Go.Maps
open Go.Proofs.YtgblliofomgggaaGreat.Old Go.Proofs.YtgblliofomgggaaGreat.Tr
def hN(w:World)(c:Nat)(buf:Array Value)(s r:Nat):Prop:=w.heap[c]? =some (.chan 8 buf false s r false)
theorem xC(c:Nat)(buf:Array Value)(s r:Nat)(v:Value)(w:World)(h:hN w c buf s r)(a7:buf.size<8):
 Calls Tryz.prog 169 #[.chan (some c),v] w λe w'=>e=.returned (.bool true)/\w.setChan c 8 (buf.push v) false (s+1) r false=w':=by
 refine calls_of_loneTo λcs=>?_;have e:Frame.enter Tryz.prog 169 #[.chan (some c),v] .normal=(base 169).at ⟨#[.chan (some c),v,undef,undef,undef,undef,undef,undef,undef,undef],[]⟩ [.code (Tryz.f169.body.getD .skip)]:=by
  simp[Frame.enter,Frame.at,Tryz.func169,base,Tryz.f169]
 rw[e];refine LoneTo.goes (n:=15) ?_;simp only[Tryz.f169,Option.getD_some]
 s_c stepG_seq
 s_reg
 s_op
 s_c stepG_region_end
 s_c stepG_seq
 s_c stepG_seq
 s_reg
 s_op
 s_c stepG_region_end
 s_reg
 s_op
 s_c stepG_region_end
 s_c stepG_seq
 s_reg
 s_stop
 refine LoneTo.step (step_lone_select_send_room (c:=c) (cap:=8) (buf:=buf) (s:=s) (r:=r) (tm:=false) (stepG_comm (cases:=#[scase c v (Y none 0 0)]) (blocking:=false) (shape:=.select) (w':=w) rfl rfl (by decide) (by simp[go_sem,execOp,scase,Act.eval])) h a7) ?_;rw[Frame.finish_at]
 walk_nrm
 refine LoneTo.goes (n:=10) ?_
 s_op
 s_op
 s_c stepG_region_end
 s_c stepG_block
 s_cond true
 s_c stepG_seq
 s_reg
 s_op
 s_c stepG_region_end
 s_c stepG_ret'
 s_stop
 exact LoneTo.done ⟨.returned (.bool true),_,rfl,⟨rfl,rfl⟩,rfl,rfl,rfl,rfl,_,Tryz.func169,by simp[results,Tryz.f169,Frame.at]⟩
theorem tQ(c:Nat)(buf:Array Value)(u:Value)(s r:Nat)(w:World)(h:hN w c buf s r)(a7:0<buf.size)(hu:buf.getD 0 undef=u):
 Calls Tryz.prog 170 #[.chan (some c)] w λe w'=>e=.returned (.tuple #[u,.bool true])/\w.setChan c 8 (buf.extract 1 buf.size) false s (r+1) false=w':=by
 refine calls_of_loneTo λcs=>?_;have e:Frame.enter Tryz.prog 170 #[.chan (some c)] .normal=(base 170).at ⟨#[.chan (some c),undef,undef,undef,undef,undef,undef,undef,undef,undef,undef],[]⟩ [.code (Tryz.f170.body.getD .skip)]:=by
  simp[Frame.enter,Frame.at,Tryz.func170,base,Tryz.f170]
 rw[e];refine LoneTo.goes (n:=12) ?_;simp only[Tryz.f170,Option.getD_some]
 s_c stepG_seq
 s_reg
 s_op
 s_op
 s_c stepG_region_end
 s_c stepG_seq
 s_reg
 s_op
 s_c stepG_region_end
 s_c stepG_seq
 s_reg
 s_stop
 refine LoneTo.step (step_lone_select_recv_buf (c:=c) (cap:=8) (buf:=buf) (s:=s) (r:=r) (tm:=false) (closed:=false) (stepG_comm (cases:=#[rcase c (Y none 0 0)]) (blocking:=false) (shape:=.select) (w':=w) rfl rfl (by decide) (by simp[go_sem,execOp,rcase,Act.eval])) h a7) ?_;rw[Frame.finish_at]
 walk_nrm
 have aR:buf[0]?.getD undef=u:=by simpa using hu
 simp only[aR];clear hu aR e;refine LoneTo.goes (n:=17) ?_
 s_op
 s_op
 s_c stepG_region_end
 s_c stepG_block
 s_cond true
 s_c stepG_seq
 s_reg
 s_op
 s_op
 s_c stepG_region_end
 s_c stepG_seq
 s_reg
 s_op
 s_op
 s_op
 s_c stepG_region_end
 s_c stepG_ret'
 s_stop
 exact LoneTo.done ⟨.returned (.tuple #[u,.bool true]),_,rfl,⟨rfl,rfl⟩,rfl,rfl,rfl,rfl,_,Tryz.func170,by simp[results,Tryz.f170,Frame.at]⟩
theorem wS(c:Nat)(l:List Value)(s r:Nat)(v:Value)(w:World)(h:hN w c l.toArray s r)(a7:l.length<8):
 Calls Tryz.prog 169 #[.chan (some c),v] w λe w'=>e=.returned (.bool true)/\w.setChan c 8 (l++[v]).toArray false (s+1) r false=w':=
 (xC c _ s r v w h (by simpa using a7)).mono λe w' ⟨h1,h2⟩=>⟨h1,by simpa using h2⟩
theorem ue(c:Nat)(l:List Value)(u:Value)(s r:Nat)(w:World)(h:hN w c (u::l).toArray s r):
 Calls Tryz.prog 170 #[.chan (some c)] w λe w'=>e=.returned (.tuple #[u,.bool true])/\w.setChan c 8 l.toArray false s (r+1) false=w':=
 (tQ c _ u s r w h (by simp) (by simp)).mono λe w' ⟨h1,h2⟩=>⟨h1,by simpa using h2⟩
theorem z0:laidOutB Tryz.prog=true:=by kernel_rfl
theorem yT:(122:TypeId)<Tryz.prog.types.size:=of_decide_eq_true (by kernel_rfl)
theorem Bv:(match Tryz.prog.underlying 122 with | some (.array _ _) | some (.struct _)=>true | _=>false)=true:=by rw[Tryz.underlying122]
theorem lD:Keyed Tryz.prog 122:=Keyed.of_law (deep_law_laid z0 (m:=2) (by omega) yT (by kernel_rfl) Bv)
theorem C7:Tryz.prog.keyType 122=true:=by kernel_rfl
theorem rT:Tryz.prog.cellsOf 122=2:=by kernel_rfl
theorem wi:Tryz.prog.cellsOf 3=1:=by kernel_rfl
theorem ye{ba c1:Value}:(Value.agg #[ba,c1]).formed Tryz.prog 122=true:=by simp[Value.formed,Tryz.underlying122,rT]
def e7(f t:Int):Value:=aE #[ag f,ag t]
theorem kG(f t:Int)(hf:(Lit.int .i64 f).wf=true)(ht:(Lit.int .i64 t).wf=true):∃l,keyOf Tryz.prog 122 (e7 f t)=some l:=by
 unfold keyOf e7;rw[Tryz.underlying122];simp only[C7,ye,Bool.and_self,if_true];obtain⟨m,hm⟩:∃m,Tryz.prog.types.size+1=m+2:=⟨Tryz.prog.types.size-1,by have h:122<Tryz.prog.types.size:=yT;omega⟩;rw[hm];have a1:∀a:Int,(Lit.int .i64 a).wf=true->Tryz.prog.keyLits (m+1) 3 [.int .i64 a]=some [.int .i64 a]:=λa ha=>by
  unfold Program.keyLits;rw[Tryz.underlying3];simp[ha]
 refine⟨.string (keyBytes [.int .i64 f,.int .i64 t]),?_⟩;unfold Program.keyLits;rw[Tryz.underlying122];simp only[Value.cells,rT];have hc:Tryz.prog.cellsOf 3=1:=wi;simp[hc,a1 f hf,a1 t ht]
theorem pj{f t f' I:Int}(h:e7 f t=e7 f' I):f=f'/\t=I:=by
 unfold e7 at h;injection h with h;have h1:=congrArg (λa:Array Value=>a[0]?) h;have h2:=congrArg (λa:Array Value=>a[1]?) h;simp at h1 h2;exact⟨h1,h2⟩
structure cj where
 f:Int
 t:Int
 c:Nat
def cj.pair(x:cj):Value×Value:=(e7 x.f x.t,.chan (some x.c))
structure Fair (L:List cj):Prop where
 wf:∀x∈L,(Lit.int .i64 x.f).wf=true/\(Lit.int .i64 x.t).wf=true
 nodup:L.Pairwise λx y=>¬ (x.f=y.f/\x.t=y.t)
def fZ(w:World)(B:Nat)(L:List cj):Prop:=∃es:Array MapEntry,w.heap[B]? =some (.map es L.length)/\es.toList.map (λe=>(e.key,e.val))=L.map cj.pair/\es.toList.map (λe=>e.born)=List.range L.length
theorem fZ.keys{L:List cj}{es:Array MapEntry}(hL:Fair L)(he:es.toList.map (λe=>(e.key,e.val))=L.map cj.pair):∀e∈es.toList,∃l,keyOf Tryz.prog 122 e.key=some l:=by
 intro e hm;have:(e.key,e.val)∈L.map cj.pair:=by rw[<-he];exact List.mem_map.2 ⟨e,hm,rfl⟩
 obtain⟨x,hx,I⟩:=List.mem_map.1 this;obtain⟨h1,h2⟩:=hL.wf x hx;have hk:e.key=e7 x.f x.t:=by
  have:=congrArg Prod.fst I;exact this.symm
 rw[hk];exact kG _ _ h1 h2
theorem vm{w:World}{B:Nat}{L:List cj}(hm:fZ w B L)(hL:Fair L){x:cj}(hx:x∈L):
 (Instr.lookup 116 (.map (some B)) (e7 x.f x.t) true).run Tryz.prog w=.ok (.tuple #[.chan (some x.c),.bool true]) w:=by
 obtain⟨es,hB,he,_⟩:=hm;obtain⟨h1,h2⟩:=hL.wf x hx;obtain⟨l,hl⟩:=kG x.f x.t h1 h2;have J:=fZ.keys hL he;have az:(x.pair)∈es.toList.map (λe=>(e.key,e.val)):=by rw[he];exact List.mem_map.2 ⟨x,hx,rfl⟩
 obtain⟨aB,ah,bn⟩:=List.mem_map.1 az;have I:∃j,(Instr.findKey 122 (e7 x.f x.t) es.toList).run Tryz.prog w=.ok (some (j,.chan (some x.c))) w:=by
  rcases lD.find w hl es.toList J with⟨_,aA⟩ | ⟨j,e,hr,hj,hk⟩
  ·exact absurd (congrArg Prod.fst bn) (aA aB ah)
  ·refine⟨j,?_⟩;rw[hr];have av:(e.key,e.val)∈L.map cj.pair:=(by rw[<-he];exact List.mem_map.2 ⟨e,List.mem_of_getElem? hj,rfl⟩);obtain⟨y,hy,M⟩:=List.mem_map.1 av;have ad:e7 y.f y.t=e7 x.f x.t:=by
    have:=congrArg Prod.fst M;exact this.trans hk
   obtain⟨q1,q2⟩:=pj ad;have aD:y=x:=by
    have aw:=hL.nodup;rw[List.pairwise_iff_getElem]at aw;obtain⟨i,hi,ae⟩:=List.getElem_of_mem hy;obtain⟨i',aa,Y⟩:=List.getElem_of_mem hx;rcases Nat.lt_trichotomy i i' with h | h | h
    ·exact absurd (by rw[ae,Y];exact⟨q1,q2⟩) (aw i i' hi aa h)
    ·subst h;rw[<-ae,<-Y]
    ·exact absurd (by rw[ae,Y];exact⟨q1.symm,q2.symm⟩) (aw i' i aa hi h)
   have hv:e.val=.chan (some x.c):=by
    have:=congrArg Prod.snd M;rw[aD]at this;exact this.symm
   rw[hv]
 obtain⟨j,hj⟩:=I;unfold Instr.lookup;simp[run_underlying Tryz.underlying116,Go.MapKept.run_getObj_map hB,lD.check w es.isEmpty hl,hj]
theorem vC{P:Prop}(h:P:=by
 have av:(e.key,e.val)∈L.map cj.pair:=by rw[<-he];exact List.mem_map.2 ⟨e,List.mem_of_getElem? hj,rfl⟩
 obtain⟨y,hy,M⟩:=List.mem_map.1 av;have ad:e7 y.f y.t=e7 f t:=by
  have:=congrArg Prod.fst M;exact this.trans hk
 exact aA y hy (pj ad)
 ):P:=h
theorem rf{w:World}{B:Nat}{L:List cj}(hm:fZ w B L)(hL:Fair L){f t:Int}(hf:(Lit.int .i64 f).wf=true)(ht:(Lit.int .i64 t).wf=true)(aA:∀x∈L,¬ (x.f=f/\x.t=t)):
 (Instr.lookup 116 (.map (some B)) (e7 f t) true).run Tryz.prog w=.ok (.tuple #[.chan none,.bool false]) w:=by
 obtain⟨es,hB,he,_⟩:=hm;obtain⟨l,hl⟩:=kG f t hf ht;have J:=fZ.keys hL he;have I:(Instr.findKey 122 (e7 f t) es.toList).run Tryz.prog w=.ok none w:=by
  rcases lD.find w hl es.toList J with⟨hr,_⟩ | ⟨j,e,hr,hj,hk⟩
  ·exact hr
  ·exfalso;exact vC
 unfold Instr.lookup;simp[run_underlying Tryz.underlying116,Go.MapKept.run_getObj_map hB,lD.check w es.isEmpty hl,I]
theorem lV{w:World}{B:Nat}{L:List cj}(hm:fZ w B L)(hL:Fair L){f t:Int}(c:Nat)(hf:(Lit.int .i64 f).wf=true)(ht:(Lit.int .i64 t).wf=true)(aA:∀x∈L,¬ (x.f=f/\x.t=t)):
 ∃w',(Instr.mapUpdate 116 (.map (some B)) (e7 f t) (.chan (some c))).run Tryz.prog w=.ok () w'/\fZ w' B (L++[⟨f,t,c⟩])/\w.grownBy w' (some B):=by
 obtain⟨es,hB,he,aa⟩:=hm;obtain⟨l,hl⟩:=kG f t hf ht;have J:=fZ.keys hL he;have I:(Instr.findKey 122 (e7 f t) es.toList).run Tryz.prog w=.ok none w:=by
  rcases lD.find w hl es.toList J with⟨hr,_⟩ | ⟨j,e,hr,hj,hk⟩
  ·exact hr
  ·exfalso;exact vC
 have bA:B<w.heap.size:=(Array.getElem?_eq_some_iff.1 hB).1;refine⟨{w with heap:=w.heap.setIfInBounds B (.map (es.push {key:=e7 f t,val:=.chan (some c),born:=L.length}) (L.length+1))},?_,⟨es.push {key:=e7 f t,val:=.chan (some c),born:=L.length},?_,?_,?_⟩,?_⟩
 ·unfold Instr.mapUpdate;simp[run_underlying Tryz.underlying116,Go.MapKept.run_getObj_map hB,lD.check w false hl,I,Go.MapKept.run_setObj_map _ hB]
 ·simp[bA]
 ·simp[he,cj.pair]
 ·simp[aa,List.range_succ]
 ·refine⟨rfl,rfl,rfl,by simp,λk hk ay=>?_⟩;have Y:B≠k:=λe=>ay (by rw[e]);simp[Array.getElem?_setIfInBounds_ne Y]
theorem Fair.snoc{L:List cj}(h:Fair L){f t:Int}(c:Nat)(hf:(Lit.int .i64 f).wf=true)(ht:(Lit.int .i64 t).wf=true)(aA:∀x∈L,¬ (x.f=f/\x.t=t)):Fair (L++[⟨f,t,c⟩]):=by
 refine⟨λx hx=>?_,?_⟩
 ·rcases List.mem_append.1 hx with hx | hx
  ·exact h.wf x hx
  ·rw[List.mem_singleton]at hx;subst hx;exact⟨hf,ht⟩
 ·rw[List.pairwise_append];refine⟨h.nodup,by simp,λx hx y hy=>?_⟩;rw[List.mem_singleton]at hy;subst hy;exact aA x hx
theorem Fair.nil:Fair []:=⟨λx hx=>by simp at hx,by simp⟩
theorem fZ.kept{w w':World}{B:Nat}{L:List cj}(h:fZ w B L)(a7:w'.heap[B]? =w.heap[B]?):fZ w' B L:=by
 obtain⟨es,h1,h2⟩:=h;exact⟨es,a7.trans h1,h2⟩
theorem Tryz.gg:(Tryz.prog.info? 5).map (λi=>(i.zero,i.size,i.bytes))=some (some (.int .u8 0),1,1):=by kernel_rfl
def isChan:Obj->Bool
 | .chan .. =>true
 | _=>false
structure et (w w':World):Prop where
 size:w.heap.size<=w'.heap.size
 block:∀ (b:Nat) (o:Obj),w.heap[b]? =some o->isChan o=false->w'.heap[b]? =some o
theorem et.refl(w:World):et w w:=⟨Nat.le_refl _,λ_ _ h _=>h⟩
theorem et.trans{a b c:World}(h:et a b)(k:et b c):et a c:=⟨Nat.le_trans h.size k.size,λx o hx ho=>k.block x o (h.block x o hx ho) ho⟩
theorem et.ao{a b:World}(h:Below a a b):et a b:=⟨h.size,λx _ hx _=>(h.block x (Array.getElem?_eq_some_iff.1 hx).1).trans hx⟩
theorem et.draws{a b:World}(h:et a b)(k:Nat):et a (b.drewN k):=⟨h.size,h.block⟩
theorem et.setChan{w:World}{c cap:Nat}{buf:Array Value}{cl:Bool}{s r:Nat}{tm:Bool}{o:Obj}(h:w.heap[c]? =some o)(ho:isChan o=true):et w (w.setChan c cap buf cl s r tm):=by
 refine⟨by simp[World.setChan],λb o' a7 Y=>?_⟩;have ay:c≠b:=λe=>by
  rw[e,a7]at h;injection h with h;rw[h,ho]at Y;cases Y
 simp[World.setChan,Array.getElem?_setIfInBounds_ne ay,a7]
theorem et.cell{w w':World}(h:et w w'){a:Addr}{v:Value}(hc:w.cell? a=some v):w'.cell? a=some v:=by
 have bA:=World.block_lt_of_cell? w a hc;have a7:w.heap[a.block]? =some w.heap[a.block]:=Array.getElem?_eq_getElem bA;have aA:isChan w.heap[a.block]=false:=by
  cases ho:w.heap[a.block]with
  | chan cap buf cl s r tm=>
   exfalso;rw[ho]at a7;unfold World.cell? at hc;simp[a7]at hc
  | _=>rfl
 have hk:=h.block _ _ a7 aA;rw[World.cell?_of_block (w:=w) (w':=w') (a:=a) (hk.trans a7.symm)];exact hc
theorem p8{w w':World}{B B':Nat}{A:Option Addr}{xs:List Value}(h:a6 w B A xs)(ht:et w w')(hB:B<=B'):a6 w' B' A xs:=by
 rcases h with h | ⟨b,off,hA,a7,hc⟩
 ·exact .inl h
 ·exact .inr ⟨b,off,hA,by omega,λj u hu=>ht.cell (hc j u hu)⟩
structure cX where
 A:Option Addr
 c:Nat
 l:List UInt8
def cX.val(m:cX):Value:=Y m.A m.l.length m.c
def kt(w:World)(c:Nat)(q:List cX):Prop:=(∃s r,hN w c (q.map cX.val).toArray s r)/\∀m∈q,Bytes w w m.A m.l
structure cA (w:World) (base qn B:Nat) (L:List cj) (Q:Nat->List cX):Prop where
 aW:ai w qn 118 #[.map (some B)]
 map:fZ w B L
 fair:Fair L
 apart:∀x∈L,∀y∈L,x.c=y.c->x=y
 lo:base<=qn/\base<=B/\∀x∈L,base<=x.c
 q:∀x∈L,kt w x.c (Q x.c)
section
variable {w w':World}{base qn B:Nat}{L:List cj}{Q:Nat->List cX}
theorem kt.below{c:Nat}{q:List cX}(h:kt w c q)(a7:Below w w w'):kt w' c q:=by
 obtain⟨⟨s,r,hc⟩,hm⟩:=h;exact⟨⟨s,r,(a7.block c (Array.getElem?_eq_some_iff.1 hc).1).trans hc⟩,λm hq=>p8 (hm m hq) (.ao a7) a7.size⟩
theorem cA.below(h:cA w base qn B L Q)(a7:Below w w w'):cA w' base qn B L Q:=by
 have bA:B<w.heap.size:=by
  obtain⟨es,h1,_⟩:=h.map;exact(Array.getElem?_eq_some_iff.1 h1).1
 exact⟨h.aW.below a7 h.aW.lt,h.map.kept (a7.block B bA),h.fair,h.apart,h.lo,λx hx=>(h.q x hx).below a7⟩
theorem cA.draws(h:cA w base qn B L Q)(k:Nat):cA (w.drewN k) base qn B L Q:=⟨h.aW,h.map,h.fair,h.apart,h.lo,h.q⟩
theorem cA.ba(h:cA w base qn B L Q){x:cj}(hx:x∈L)(I:List cX)(s r:Nat)(hq:∀m∈I,Bytes w w m.A m.l):
 cA (w.setChan x.c 8 (I.map cX.val).toArray false s r false) base qn B L (λc=>if c=x.c then I else Q c)/\et w (w.setChan x.c 8 (I.map cX.val).toArray false s r false)/\Below base w (w.setChan x.c 8 (I.map cX.val).toArray false s r false):=by
 obtain⟨⟨s0,r0,hc⟩,_⟩:=h.q x hx;have ht:et w (w.setChan x.c 8 (I.map cX.val).toArray false s r false):=et.setChan hc rfl;have bA:x.c<w.heap.size:=(Array.getElem?_eq_some_iff.1 hc).1;have bJ:(w.setChan x.c 8 (I.map cX.val).toArray false s r false).heap.size=w.heap.size:=size_setChan _ _ _ _ _ _ _ _;refine⟨⟨ht.block _ _ h.aW rfl,?_,h.fair,h.apart,h.lo,λy hy=>?_⟩,ht,below_setChan (Below.refl base w) (h.lo.2.2 x hx) _ _ _ _ _ _⟩
 ·obtain⟨es,h1,h2⟩:=h.map;exact⟨es,ht.block _ _ h1 rfl,h2⟩
 ·by_cases e:y.c=x.c
  ·rw[if_pos e,e];exact⟨⟨s,r,heap_setChan _ _ _ _ _ _ _ _ bA⟩,λm hm=>p8 (hq m hm) ht (by rw[bJ];exact Nat.le_refl _)⟩
  ·rw[if_neg e];obtain⟨⟨s1,r1,bU⟩,aK⟩:=h.q y hy;refine⟨⟨s1,r1,?_⟩,λm hm=>p8 (aK m hm) ht (by rw[bJ];exact Nat.le_refl _)⟩;unfold hN;simp only[World.setChan];rw[Array.getElem?_setIfInBounds_ne (Ne.symm e)];exact bU
end
theorem fo(A:Option Addr)(c B:Nat)(l:List UInt8)(w:World)(h:Bytes w B A l)(hB:B<=w.heap.size)(hm:l.length<=1048576):
 Calls Tryz.prog 69 #[Y A l.length c] w λe w'=>∃A' c',e=.returned (Y A' l.length c')/\w'.ownsRow w 5 1 (Y A' l.length c') l.length (aA l)/\Below w w w':=by
 obtain⟨i0,bM,bL,ae,aa⟩:=info_parts Tryz.gg;cases A with
 | none=>
  have hl:l=[]:=by
   rcases h with h | ⟨b,off,hA,_⟩
   ·cases l with
    | nil=>rfl
    | cons x l=>simp[aA]at h
   ·cases hA
  subst hl;have aL:=Lib.run_eql_slice_nil (P:=Tryz.prog) w 97 5 none 0 c 0 0 Tryz.underlying97;go_enter Tryz.func69,Tryz.ntmps69;go_wp2;go_ret;exact⟨none,0,rfl,World.ownsRow_nil _ _ _ _,Below.refl _ _⟩
 | some a=>
  have aL:=Lib.run_eql_slice_nil (P:=Tryz.prog) w 97 5 (some a) l.length c 0 0 Tryz.underlying97;have J:=World.ownsRow_made (e:=5) (size:=1) w #[] 0 (Nat.le_refl _) (Nat.zero_le _) rfl;go_enter Tryz.func69,Tryz.ntmps69;go_wp2_with (at_builtin;refine dg _ rfl (.tmp 5) (.tmp 6) 97 rfl w 5 i0 _ 1 Tryz.underlying97 bM bL ae aa rfl _ 0 [] rfl J B (some a) l.length c (aA l) rfl (aU l) (h.alloc hB _) (dT l) (by unfold maxLen;omega) (by omega) (by simp) ?_;intro A1 c1 w1 M ad ai);have aY:=((Below.refl w w).alloc (Nat.le_refl _) (.cells #[] 5)).trans (bC J ad (Nat.le_refl _) (by simp));simp only[Nat.zero_add,List.nil_append]at M;go_ret;exact⟨_,_,rfl,M,aY⟩
section
variable (w:World)(base qn B:Nat)(L:List cj)(Q:Nat->List cX)(h:cA w base qn B L Q)
include h
theorem mY(x:cj)(hx:x∈L):Calls Tryz.prog 97 #[aj qn,ag x.f,ag x.t] w λe w'=>e=.returned (.tuple #[.chan (some x.c),ag 0])/\w=w':=by
 have ba:=h.aW.cell 0;simp at ba;have hl:=vm h.map h.fair hx;unfold e7 at hl;go_enter Tryz.func97,Tryz.ntmps97;go_wp2;go_ret2;exact⟨rfl,rfl⟩
theorem ww(f t:Int)(hf:(Lit.int .i64 f).wf=true)(ht:(Lit.int .i64 t).wf=true)(aA:∀x∈L,¬ (x.f=f/\x.t=t)):Calls Tryz.prog 97 #[aj qn,.int .i64 f,.int .i64 t] w λe w'=>e=.returned (.tuple #[.chan none,.int .i64 140])/\w=w':=by
 have ba:=h.aW.cell 0;simp at ba;have hl:=rf h.map h.fair hf ht aA;unfold e7 at hl;clear aA;go_enter Tryz.func97,Tryz.ntmps97;go_wp2;go_ret2;exact⟨rfl,rfl⟩
theorem r8(x:cj)(hx:x∈L):Calls Tryz.prog 52 #[aj qn,ag x.f,ag x.t] w λe w'=>e=.returned (ag (Q x.c).length)/\w=w':=by
 obtain⟨⟨s,r,hc⟩,_⟩:=h.q x hx;have hlen:=λty=>run_len_chan (P:=Tryz.prog) 120 ty Tryz.underlying120 hc;simp only[List.size_toArray,List.length_map]at hlen;go_enter Tryz.func52,Tryz.ntmps52;go_wp2_with fail;refine(mY w base qn B L Q h x hx).mono ?_;rintro e w1 ⟨rfl,rfl⟩;go_wp2;go_ret;exact⟨rfl,rfl⟩
theorem xD(f t:Int)(hf:(Lit.int .i64 f).wf=true)(ht:(Lit.int .i64 t).wf=true)(aA:∀x∈L,¬ (x.f=f/\x.t=t)):Calls Tryz.prog 52 #[aj qn,.int .i64 f,.int .i64 t] w λe w'=>e=.returned (.int .i64 0)/\w=w':=by
 have a6:=Lib.hid aA;clear aA;go_enter Tryz.func52,Tryz.ntmps52;go_wp2_with fail;refine(ww w base qn B L Q h f t hf ht a6.out).mono ?_;rintro e w1 ⟨rfl,rfl⟩;go_wp2;go_ret;exact⟨rfl,rfl⟩
end
theorem cA.congr{w:World}{base qn B:Nat}{L:List cj}{Q Q':Nat->List cX}(h:cA w base qn B L Q)(e:∀x∈L,Q x.c=Q' x.c):cA w base qn B L Q':=
 ⟨h.aW,h.map,h.fair,h.apart,h.lo,λx hx=>by rw[<-e x hx];exact h.q x hx⟩
theorem cA.again{w:World}{base qn B c:Nat}{L:List cj}{Q:Nat->List cX}{a b:List cX}(h:cA w base qn B L (λk=>if k=c then b else(if k=c then a else Q k))):cA w base qn B L (λk=>if k=c then b else Q k):=
 h.congr (λx _=>by
  by_cases e:x.c=c
  ·simp[e]
  ·simp[e])
section
variable (w:World)(base qn B:Nat)(L:List cj)(Q:Nat->List cX)(h:cA w base qn B L Q)
include h
end
theorem Au:∃i,Tryz.prog.info? 97=some i/\i.bytes=24:=by
 have h:(Tryz.prog.info? 97).map (·.bytes)=some 24:=by kernel_rfl
 obtain⟨i,hi,a7⟩:=Option.map_eq_some_iff.1 h;exact⟨i,hi,a7⟩
theorem Dw(w:World):(Instr.makeChan 120 (ag 8)).run Tryz.prog w=.ok (.chan (some w.heap.size)) (w.alloc (.chan 8 #[] false 0 0 false)):=by
 obtain⟨i,hi,a7⟩:=Au;simpa using run_makeChan (P:=Tryz.prog) (w:=w) Tryz.underlying120 hi .i64 8 (by omega) (by rw[a7];omega)
structure dy (p:Nat->Nat) (k:Nat) (L:List cj):Prop where
 only:∀x∈L,∃j,1<=j/\j<k/\((x.f=j/\x.t=p j)\/(x.f=p j/\x.t=j))
 all:∀j,1<=j->j<k->(∃x∈L,x.f=j/\x.t=p j)/\(∃x∈L,x.f=p j/\x.t=j)
theorem dy.start(p:Nat->Nat):dy p 1 []:=⟨λx hx=>by simp at hx,λj h1 h2=>by omega⟩
theorem dy.next{p:Nat->Nat}{k c d:Nat}{L:List cj}(h:dy p k L)(hk:1<=k):dy p (k+1) (L++[⟨k,p k,c⟩]++[⟨p k,k,d⟩]):=by
 refine⟨λx hx=>?_,λj h1 h2=>?_⟩
 ·simp only[List.append_assoc,List.mem_append,List.mem_cons,List.not_mem_nil,or_false]at hx;rcases hx with hx | rfl | rfl
  ·obtain⟨j,h1,h2,a1⟩:=h.only x hx;exact⟨j,h1,by omega,a1⟩
  ·exact⟨k,hk,by omega,.inl ⟨rfl,rfl⟩⟩
  ·exact⟨k,hk,by omega,.inr ⟨rfl,rfl⟩⟩
 ·by_cases e:j=k
  ·subst e;exact⟨⟨⟨j,p j,c⟩,by simp,rfl,rfl⟩,⟨⟨p j,j,d⟩,by simp,rfl,rfl⟩⟩
  ·obtain⟨⟨x,hx,aT⟩,⟨y,hy,bT⟩⟩:=h.all j h1 (by omega);exact⟨⟨x,by simp[hx],aT⟩,⟨y,by simp[hy],bT⟩⟩
theorem cA.more{w w2:World}{base qn B:Nat}{L:List cj}{f t:Int}(h:cA w base qn B L (λ_=>[]))(av:base<=w.heap.size)(hf:(Lit.int .i64 f).wf=true)(ht:(Lit.int .i64 t).wf=true)(aA:∀x∈L,¬ (x.f=f/\x.t=t))
 (hm:fZ w2 B (L++[⟨f,t,w.heap.size⟩])) (hg:(w.alloc (.chan 8 #[] false 0 0 false)).grownBy w2 (some B)):cA w2 base qn B (L++[⟨f,t,w.heap.size⟩]) (λ_=>[])/\Below base w w2:=by
 have J:B<w.heap.size:=by
  obtain⟨es,h1,_⟩:=h.map;exact(Array.getElem?_eq_some_iff.1 h1).1
 have I:=h.map;have hold:∀b,b<w.heap.size->b≠B->w2.heap[b]? =w.heap[b]? :=λb a7 ay=>
  (hg.block b (by simp;omega) (λe=>ay (by injection e))).trans (Below.heap_alloc w _ b a7)
 have a1:qn≠B:=λe=>by
  obtain⟨es,h1,_⟩:=I;have h2:=h.aW;unfold ai at h2;rw[e,h1]at h2;injection h2 with h2;cases h2
 have bc:∀x∈L,x.c<w.heap.size/\x.c≠B:=λx hx=>by
  obtain⟨⟨s,r,hc⟩,_⟩:=h.q x hx;refine⟨(Array.getElem?_eq_some_iff.1 hc).1,λe=>?_⟩;obtain⟨es,h1,_⟩:=I;unfold hN at hc;rw[e,h1]at hc;injection hc with hc;cases hc
 refine⟨⟨(hold qn h.aW.lt a1).trans h.aW,hm,h.fair.snoc _ hf ht aA,?_,⟨h.lo.1,h.lo.2.1,?_⟩,?_⟩,?_⟩
 ·intro x hx y hy e;rcases List.mem_append.1 hx with hx | hx<;>rcases List.mem_append.1 hy with hy | hy
  ·exact h.apart x hx y hy e
  ·rw[List.mem_singleton]at hy;subst hy;have:=(bc x hx).1;simp only at e;omega
  ·rw[List.mem_singleton]at hx;subst hx;have:=(bc y hy).1;simp only at e;omega
  ·rw[List.mem_singleton]at hx hy;rw[hx,hy]
 ·intro x hx;rcases List.mem_append.1 hx with hx | hx
  ·exact h.lo.2.2 x hx
  ·rw[List.mem_singleton]at hx;subst hx;exact av
 ·intro x hx;refine⟨?_,λm hm=>by simp at hm⟩;rcases List.mem_append.1 hx with hx | hx
  ·obtain⟨⟨s,r,hc⟩,_⟩:=h.q x hx;exact⟨s,r,(hold x.c (bc x hx).1 (bc x hx).2).trans hc⟩
  ·rw[List.mem_singleton]at hx;subst hx;exact⟨0,0,(hg.block w (by simp) (λe=>by injection e with e;omega)).trans (heap_alloc_new w _)⟩
 ·exact((Below.refl base w).alloc av _).grown hg (by simp;omega) (λk e=>by injection e with e;rw[<-e];exact h.lo.2.1)
theorem A5(A:Option Addr)(cap n:Nat)(p:Nat->Nat)(w:World)(ht:c6 w w A n p):
 Calls Tryz.prog 21 #[Y A n cap] w λe w'=>∃qn B L,e=.returned (.tuple #[aj qn,.int .i64 0])/\cA w' w qn B L (λ_=>[])/\dy p n L/\Below w w w':=by
 have HT:=Lib.hid ht;obtain⟨h1,h2,hg,aN,off,rfl,ag,h0,hc⟩:=ht;have HC:=Lib.hid hc;have HG:=Lib.hid hg;clear h0 hc hg;have aR:= @run_makeMap Tryz.prog;have aG:=Dw;have ax:fZ (w.alloc (.map #[] 0)) w []:=⟨#[],heap_alloc_new w _,rfl,rfl⟩;have au:cA ((w.alloc (.map #[] 0)).alloc (.cells #[.map (some w.heap.size)] 118)) w (w.heap.size+1) w [] (λ_=>[]):=by
  refine⟨?_,ax.kept (Below.heap_alloc _ _ _ (by simp)),Fair.nil,λx hx=>by simp at hx,⟨by omega,Nat.le_refl _,λx hx=>by simp at hx⟩,λx hx=>by simp at hx⟩;have:=ai.made (w.alloc (.map #[] 0)) 118 #[.map (some w.heap.size)]
  rwa [World.size_alloc]at this
 have ak:Below w w ((w.alloc (.map #[] 0)).alloc (.cells #[.map (some w.heap.size)] 118)):=((Below.refl _ w).alloc (Nat.le_refl _) _).alloc (by simp) _;go_enter Tryz.func21,Tryz.ntmps21;go_wp2_with fail;refine(jJ _ cap n _ p w HT.out).mono ?_;rintro e w1 ⟨rfl,rfl⟩;go_wp2_with fail;obtain⟨qn,az⟩:=am (w.heap.size+1);rw[<-az]at au ⊢;clear az ax
 go_loopw [6] (λk_ wr=>∃ (k:Nat) (L:List cj),k_=.int .i64 k/\1<=k/\k<=n/\cA wr w qn w L (λ_=>[])/\Hid (dy p k L)/\Below w w wr) (λk _=>n- (intOf k).toNat)
 case atStart=>exact⟨1,[],rfl,by omega,h1,au,dy.start p,ak⟩
 case round=>
  obtain⟨k,L,rfl,bp,hk,hN,HL,aK⟩:=hrel;by_cases bA:k<n
  ·have bE:(k:Int)<(n:Int):=(by omega);have hp:=HG.out k bp bA;have av:(Lit.int .i64 (k:Int)).wf=true:=WalkArith.wf_i64 (by omega);have aq:(Lit.int .i64 (p k:Int)).wf=true:=WalkArith.wf_i64 (by omega);have aw:∀x∈L,¬ (x.f=(k:Int)/\x.t=(p k:Int)):=λx hx ⟨e1,a5⟩=>by
    obtain⟨j,j1,j2,⟨e3,e4⟩ | ⟨e3,e4⟩⟩:=HL.out.only x hx
    ·omega
    ·have:=HG.out j j1 (by omega);omega
   have aa:=hN.draws 1;obtain⟨w2,ah,a9,aF⟩:=lV (w:=wr.drew.alloc (.chan 8 #[] false 0 0 false)) (aa.map.kept (Below.heap_alloc wr.drew _ _ (by obtain⟨es,q1,_⟩:=aa.map;exact(Array.getElem?_eq_some_iff.1 q1).1))) aa.fair wr av aq aw;obtain⟨N2,bI⟩:=cA.more (w:=wr.drew) aa aK.size av aq aw a9 aF;have aL:∀x∈L++[⟨(k:Int),(p k:Int),wr.drew.heap.size⟩],¬ (x.f=(p k:Int)/\x.t=(k:Int)):=λx hx ⟨e1,a5⟩=>by
    rcases List.mem_append.1 hx with hx | hx
    ·obtain⟨j,j1,j2,⟨e3,e4⟩ | ⟨e3,e4⟩⟩:=HL.out.only x hx
     ·have:=HG.out j j1 (by omega);omega
     ·omega
    ·rw[List.mem_singleton]at hx;subst hx;simp only at e1;omega
   have ao:Below w w wr.drew:=aK.drew;have ae:=ao.trans bI;have M:=N2.draws 1;obtain⟨w3,af,aD,I⟩:=lV (w:=w2.drew.alloc (.chan 8 #[] false 0 0 false)) (M.map.kept (Below.heap_alloc w2.drew _ _ (by obtain⟨es,q1,_⟩:=M.map;exact(Array.getElem?_eq_some_iff.1 q1).1))) M.fair w2 aq av aL;obtain⟨N3,B3⟩:=cA.more (w:=w2.drew) M ae.size aq av aL aD I;have ay:=ae.drew.trans B3;have aB:Hid (dy p (k+1) _):=HL.out.next (c:=wr.drew.heap.size) (d:=w2.drew.heap.size) bp;have NN:=Lib.hid N3;have ck:=HC.out k bp bA;have q0:=hN.aW.cell 0;have q1:=(ai.alloc (w:=wr.drew) hN.aW (.chan 8 #[] false 0 0 false)).cell 0;have q2:=N2.aW.cell 0;have q3:=(ai.alloc (w:=w2.drew) N2.aW (.chan 8 #[] false 0 0 false)).cell 0;have q4:=N3.aW.cell 0;simp only[show(#[Value.map (some w.heap.size)]:Array Value)[0]? =some (.map (some w.heap.size)) from rfl]at q0 q1 q2 q3 q4;have r0:=(ao.cell (p:=⟨aN,off+k,none⟩) ag).trans ck;have r1:=((ao.alloc ao.size (.chan 8 #[] false 0 0 false)).cell (p:=⟨aN,off+k,none⟩) ag).trans ck;have bf:=(ae.cell (p:=⟨aN,off+k,none⟩) ag).trans ck;have r3:=(((ae.drew).alloc ae.size (.chan 8 #[] false 0 0 false)).cell (p:=⟨aN,off+k,none⟩) ag).trans ck;have r4:=(ay.cell (p:=⟨aN,off+k,none⟩) ag).trans ck;unfold e7 at ah af;have aC:(Instr.mapUpdate 116 (.map (some w.heap.size)) (aE #[.int .i64 (k:Int),.int .i64 (p k:Int)]) (.chan (some wr.heap.size))).run Tryz.prog (wr.alloc (.chan 8 #[] false 0 0 false)).drew=.ok () w2:=ah;have ar:(Instr.mapUpdate 116 (.map (some w.heap.size)) (aE #[.int .i64 (p k:Int),.int .i64 (k:Int)]) (.chan (some w2.heap.size))).run Tryz.prog (w2.alloc (.chan 8 #[] false 0 0 false)).drew=.ok () w3:=af;clear ah af;clear aw aL a9 aF aD I N2 N3 aa M bI B3 ck av aq hp hN HL;generalize p k=j at*;go_wp2_with fail;refine wp_region_held_drew (S:=(λw'=>w'.cell? (aj qn)=some (.map (some w.heap.size))/\w'.cell? ⟨aN,off+k,none⟩=some (.int .i64 (j:Int)))) (by kernel_rfl) (by first | exact⟨q0,r0⟩ | exact⟨q1,r1⟩ | exact⟨q2,bf⟩) (λJ=>?_);refine tk 0 J ?_;refine tk 1 J ?_;refine tk 2 J ?_;refine tk 3 J ?_;refine tk 4 J ?_;refine tk 5 J ?_;refine tk 6 J ?_;refine tk 7 J ?_;refine tk 8 J ?_;refine tk 9 J ?_;refine aP 10 (λK ad=>?_);clear J;go_simp;refine ad.out _ _ (by first | exact⟨q0,r0⟩ | exact⟨q1,r1⟩ | exact⟨q2,bf⟩) (λJ=>?_);clear ad K;refine aP 11 (λK ad=>?_);clear J;go_simp;refine ad.out _ _ (by first | exact⟨q0,r0⟩ | exact⟨q1,r1⟩ | exact⟨q2,bf⟩) (λJ=>?_);clear ad K;refine cB ?_ _;go_wp2_with fail;refine wp_region_held_drew (S:=(λw'=>w'.cell? (aj qn)=some (.map (some w.heap.size))/\w'.cell? ⟨aN,off+k,none⟩=some (.int .i64 (j:Int)))) (by kernel_rfl) (by first | exact⟨q2,bf⟩ | exact⟨q3,r3⟩ | exact⟨q4,r4⟩) (λJ=>?_);refine tk 0 J ?_;refine tk 1 J ?_;refine tk 2 J ?_;refine tk 3 J ?_;refine tk 4 J ?_;refine tk 5 J ?_;refine tk 6 J ?_;refine tk 7 J ?_;refine tk 8 J ?_;refine tk 9 J ?_;refine aP 10 (λK ad=>?_);clear J;go_simp;refine ad.out _ _ (by first | exact⟨q2,bf⟩ | exact⟨q3,r3⟩ | exact⟨q4,r4⟩) (λJ=>?_);clear ad K;refine aP 11 (λK ad=>?_);clear J;go_simp;refine ad.out _ _ (by first | exact⟨q2,bf⟩ | exact⟨q3,r3⟩ | exact⟨q4,r4⟩) (λJ=>?_);clear ad K;refine cB ?_ _;go_wp2_with fail
   go_roundw
   case rel=>exact⟨k+1,_,by go_num,by omega,by omega,NN.out,aB,ay⟩
   case measure=>simp[intOf];omega
  ·have a3:(n:Int)<=(k:Int):=(by omega);have a2:k=n:=(by omega);have aA:=Lib.hid a2;clear a2;go_wp2_with fail;go_ret2;exact⟨qn,w.heap.size,L,rfl,hN,by rw[<-aA.out];exact HL.out,aK⟩
end Nt
end Go.Proofs.YtgblliofomgggaaGreat
