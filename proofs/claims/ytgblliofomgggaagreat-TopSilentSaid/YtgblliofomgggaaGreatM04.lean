import Derived.WalkKit
import Derived.WalkLawsBesides
import Derived.WalkSpells
import Derived.Lib.Hide
import Derived.Maps.AppendAt
import Derived.Deep.Draws
import Derived.Laws.AppendOwnNone
import Derived.Test.YtgblliofomgggaaGreatRows
import Derived.Laws.CopyOwn
import Derived.Laws.OwnMore
import Derived.OwnWalk
import Derived.Deep.RegionLaw
import Derived.Deep.QuietTactic
import Derived.BigQuiet
import Derived.ScopeJumps
import Derived.Test.YtgblliofomgggaaGreatM01
namespace Go.Proofs.YtgblliofomgggaaGreat
set_option maxRecDepth 100000
set_option maxHeartbeats 1000000
open Go.RowKit a7
open Go.IntKind renaming i64 -> af,u64 -> ak
open Go.Value renaming int -> I,slice -> Y,pointer -> aL,agg -> aE
section
structure Goes (S:Nat->Prop) (w:World) (S':Nat->Prop) (w':World):Prop where
 os:w'.os=w.os
 tape:w'.tape=w.tape
 output:w'.output=w.output
 size:w.heap.size<=w'.heap.size
 aI:∀b,b<w.heap.size->¬S b->w'.heap[b]? =w.heap[b]?
 only:∀b,b<w.heap.size->S' b->S b
def mF(w:World)(S:Nat->Prop):Prop:=∀b,S b->b<w.heap.size
section
variable {S S' Do:Nat->Prop}{w w' w'':World}
theorem Goes.refl(S:Nat->Prop)(w:World):Goes S w S w:=⟨rfl,rfl,rfl,Nat.le_refl _,λ_ _ _=>rfl,λ_ _ h=>h⟩
theorem Goes.trans(h:Goes S w S' w')(k:Goes S' w' Do w''):Goes S w Do w'':=
 ⟨k.os.trans h.os,k.tape.trans h.tape,k.output.trans h.output,Nat.le_trans h.size k.size,
  λb a7 hs=>(k.aI b (Nat.lt_of_lt_of_le a7 h.size) (λe=>hs (h.only b a7 e))).trans (h.aI b a7 hs),
  λb a7 hs=>h.only b a7 (k.only b (Nat.lt_of_lt_of_le a7 h.size) hs)⟩
theorem Goes.ao(h:Below w w w')(S:Nat->Prop):Goes S w S w':=⟨h.os,h.tape,h.output,h.size,λb a7 _=>h.block b a7,λ_ _ hs=>hs⟩
theorem mF.mono(h:mF w S)(hs:w.heap.size<=w'.heap.size):mF w' S:=λb a7=>Nat.lt_of_lt_of_le (h b a7) hs
theorem mF.below{B:Nat}(h:mF w S)(a7:Below B w w'):mF w' S:=h.mono a7.size
theorem dc{B n:Nat}{a w:World}(h:Below B a w):Below B a (w.drewN n):=⟨h.os,h.tape,h.output,h.size,h.block⟩
theorem a8{B:Nat}{a w:World}(h:Below B a.drew w):Below B a w:=⟨h.os,h.tape,h.output,h.size,h.block⟩
end
def a6(w:World)(S:Nat->Prop)(A:Option Addr)(xs:List Value):Prop:=
 xs=[]\/∃b off,A=some ⟨b,off,none⟩/\b<w.heap.size/\¬S b/\∀j u,xs[j]? =some u->w.cell? ⟨b,off+j,none⟩=some u
section
variable {w w':World}{S S':Nat->Prop}{A:Option Addr}{xs:List Value}
theorem a6.nil(w:World)(S:Nat->Prop)(A:Option Addr):a6 w S A []:=.inl rfl
theorem a6.open_(h:a6 w S A xs)(hx:0<xs.length):∃b off,A=some ⟨b,off,none⟩/\b<w.heap.size/\¬S b/\∀j u,xs[j]? =some u->w.cell? ⟨b,off+j,none⟩=some u:=by
 rcases h with rfl | h
 ·simp at hx
 ·exact h
theorem Goes.cell(g:Goes S w S' w'){a:Addr}{v:Value}(hs:¬S a.block)(hc:w.cell? a=some v):w'.cell? a=some v:=by
 have bA:=World.block_lt_of_cell? w a hc;rw[World.cell?_of_block (w:=w) (w':=w') (a:=a) (g.aI a.block bA hs)];exact hc
theorem a6.goes(h:a6 w S A xs)(g:Goes S w S' w'):a6 w' S' A xs:=by
 rcases h with h | ⟨b,off,hA,a7,hs,hc⟩
 ·exact .inl h
 ·exact .inr ⟨b,off,hA,Nat.lt_of_lt_of_le a7 g.size,λe=>hs (g.only b a7 e),λj u hu=>g.cell hs (hc j u hu)⟩
theorem a6.below(h:a6 w S A xs)(a7:Below w w w'):a6 w' S A xs:=h.goes (.ao a7 S)
theorem a6.drew(h:a6 w S A xs):a6 w.drew S A xs:=h
theorem a6.drewN(h:a6 w S A xs)(k:Nat):a6 (w.drewN k) S A xs:=h
theorem a6.alloc(h:a6 w S A xs)(o:Obj):a6 (w.alloc o) S A xs:=h.below ((Below.refl _ w).alloc (Nat.le_refl _) o)
theorem a6.weak(h:a6 w S A xs)(hs:∀b,S' b->S b):a6 w S' A xs:=by
 rcases h with h | ⟨b,off,hA,a7,aL,hc⟩
 ·exact .inl h
 ·exact .inr ⟨b,off,hA,a7,λe=>aL (hs b e),hc⟩
theorem a6.cut(h:a6 w S A xs){k n:Nat}(hk:k+n<=xs.length)(A':Option Addr)(hA:0<n->A'=A.map (·.add k)):a6 w S A' ((xs.drop k).take n):=by
 by_cases aL:n=0
 ·subst aL;left;simp
 ·obtain⟨b,off,rfl,a7,hs,hc⟩:=h.open_ (by omega);right;refine⟨b,off+k,?_,a7,hs,λj u hu=>?_⟩
  ·rw[hA (by omega)];unfold Addr.add;by_cases h0:k=0<;>simp[h0]
  ·rw[List.getElem?_take]at hu;split at hu
   ·rw[List.getElem?_drop]at hu;rw[Nat.add_assoc];exact hc _ u hu
   ·cases hu
end
section
variable {w w':World}{base base' e e' k k' n m c:Nat}{A:Option Addr}{v u:Value}{xs ys:List Value}
theorem a6.eu{S:Nat->Prop}(h:w.ownsRow base e k (Y A n c) n xs)(hS:∀b,S b->b<base):a6 w S A xs:=by
 by_cases hx:xs=[]
 ·exact .inl hx
 ·rcases h.2 with⟨hv,aL⟩ | ⟨g,cap,cur,hv,hg,hh,aA,ao,hcs,M⟩
  ·have:=h.1;subst aL;simp at this;exact absurd this hx
  ·right;have hA:A=some ⟨g,0,none⟩:=(by injection hv);refine⟨g,0,hA,(Array.getElem?_eq_some_iff.1 hh).1,λe=>by have:=hS g e;omega,λj u hu=>?_⟩;have:=h.cells (g:=g) (by rw[hA];rfl) j u hu
   rwa [Addr.add_lit]at this
theorem aT(h:w.ownsRow base e k v n xs)(a7:Below w w w'):w'.ownsRow base e k v n xs:=by
 refine⟨h.1,?_⟩;rcases h.2 with aL | ⟨g,cap,cur,hv,hg,hh,rest⟩
 ·exact .inl aL
 ·exact .inr ⟨g,cap,cur,hv,hg,(a7.block g (Array.getElem?_eq_some_iff.1 hh).1).trans hh,rest⟩
theorem dt(h:w.ownsRow base e k v n xs)(a7:base'<=base):w.ownsRow base' e k v n xs:=by
 refine⟨h.1,?_⟩;rcases h.2 with aL | ⟨g,cap,cur,hv,hg,rest⟩
 ·exact .inl aL
 ·exact .inr ⟨g,cap,cur,hv,by omega,rest⟩
theorem eH(h:w.ownsRow base e k v n xs):∃A c,v=Y A n c:=by
 rcases h.2 with⟨rfl,rfl⟩ | ⟨g,cap,cur,rfl,_⟩
 ·exact⟨_,_,rfl⟩
 ·exact⟨_,_,rfl⟩
theorem fR(h:w.ownsRow base e k (Y A n c) n xs):n<=c:=by
 rcases h.2 with⟨hv,rfl⟩ | ⟨g,cap,cur,hv,_,_,aA,_⟩
 ·exact Nat.zero_le _
 ·injection hv with _ _ hc;omega
def ai(w:World)(g:Nat)(t:TypeId)(cs:Array Value):Prop:=w.heap[g]? =some (.cells cs t (0,0))
theorem ai.cx{g:Nat}{t:TypeId}{cs:Array Value}(h:ai w g t cs)(J:w.ownsRow base e k v n xs)(ay:e≠t):some g≠v.ownBlock:=by
 rcases J.2 with⟨rfl,_⟩ | ⟨g',cap,cur,rfl,_,hh,_⟩
 ·simp[Value.ownBlock]
 ·intro he;have hg:g=g':=(by simpa[Value.ownBlock]using he);subst hg;unfold ai at h;rw[h]at hh;injection hh with hh;injection hh with _ ht;exact ay ht.symm
theorem dU(h:w.ownsRow base e k v n xs){row:Option Nat}(hr:∀g,row=some g->v.ownBlock≠some g)(g:w.grownBy w' row):w'.ownsRow base e k v n xs:=by
 refine⟨h.1,?_⟩;rcases h.2 with aL | ⟨b,cap,cur,hv,hg,hh,rest⟩
 ·exact .inl aL
 ·refine .inr ⟨b,cap,cur,hv,hg,(g.block b (Array.getElem?_eq_some_iff.1 hh).1 ?_).trans hh,rest⟩;intro e;exact hr b e.symm (by rw[hv];rfl)
theorem bC{B:Nat}(J:w.ownsRow base e k v n xs)(hg:w.grownBy w' v.ownBlock)(hB:B<=base)(hs:base<=w.heap.size):Below B w w':=
 (Below.refl B w).grown hg (by omega) (λj hj=>by have:=(J.lt j hj).1;omega)
theorem ai.lt{g:Nat}{t:TypeId}{cs:Array Value}(h:ai w g t cs):g<w.heap.size:=(Array.getElem?_eq_some_iff.1 h).1
theorem ai.cell{g:Nat}{t:TypeId}{cs:Array Value}(h:ai w g t cs)(i:Nat):w.cell? ⟨g,i,none⟩=cs[i]? :=cell_of_row w g i cs t (0,0) h
theorem ai.c3{g:Nat}{t:TypeId}{cs:Array Value}(h:ai w g t cs):w.cell? (aj g)=cs[0]?/\w.cell? ⟨g,1,none⟩=cs[1]?/\w.cell? ⟨g,2,none⟩=cs[2]? :=⟨h.cell 0,h.cell 1,h.cell 2⟩
theorem ai.c4{g:Nat}{t:TypeId}{cs:Array Value}(h:ai w g t cs):w.cell? (aj g)=cs[0]?/\w.cell? ⟨g,1,none⟩=cs[1]?/\w.cell? ⟨g,2,none⟩=cs[2]?/\w.cell? ⟨g,3,none⟩=cs[3]? :=⟨h.cell 0,h.cell 1,h.cell 2,h.cell 3⟩
theorem ai.c8{g:Nat}{t:TypeId}{cs:Array Value}(h:ai w g t cs):w.cell? (aj g)=cs[0]?/\w.cell? ⟨g,1,none⟩=cs[1]?/\w.cell? ⟨g,2,none⟩=cs[2]?/\w.cell? ⟨g,3,none⟩=cs[3]?/\w.cell? ⟨g,4,none⟩=cs[4]?/\w.cell? ⟨g,5,none⟩=cs[5]?/\w.cell? ⟨g,6,none⟩=cs[6]?/\w.cell? ⟨g,7,none⟩=cs[7]? :=⟨h.cell 0,h.cell 1,h.cell 2,h.cell 3,h.cell 4,h.cell 5,h.cell 6,h.cell 7⟩
theorem ai.c9{g:Nat}{t:TypeId}{cs:Array Value}(h:ai w g t cs):w.cell? (aj g)=cs[0]?/\w.cell? ⟨g,1,none⟩=cs[1]?/\w.cell? ⟨g,2,none⟩=cs[2]?/\w.cell? ⟨g,3,none⟩=cs[3]?/\w.cell? ⟨g,4,none⟩=cs[4]?/\w.cell? ⟨g,5,none⟩=cs[5]?/\w.cell? ⟨g,6,none⟩=cs[6]?/\w.cell? ⟨g,7,none⟩=cs[7]?/\w.cell? ⟨g,8,none⟩=cs[8]? :=⟨h.cell 0,h.cell 1,h.cell 2,h.cell 3,h.cell 4,h.cell 5,h.cell 6,h.cell 7,h.cell 8⟩
theorem ai.yH{g:Nat}{t:TypeId}{cs:Array Value}(h:ai w g t cs):w.cell? (aj g)=cs[0]?/\w.cell? ⟨g,1,none⟩=cs[1]?/\w.cell? ⟨g,2,none⟩=cs[2]?/\w.cell? ⟨g,3,none⟩=cs[3]?/\w.cell? ⟨g,4,none⟩=cs[4]?/\w.cell? ⟨g,5,none⟩=cs[5]?/\w.cell? ⟨g,6,none⟩=cs[6]?/\w.cell? ⟨g,7,none⟩=cs[7]?/\w.cell? ⟨g,8,none⟩=cs[8]?/\w.cell? ⟨g,9,none⟩=cs[9]?/\w.cell? ⟨g,10,none⟩=cs[10]?/\w.cell? ⟨g,11,none⟩=cs[11]?/\w.cell? ⟨g,12,none⟩=cs[12]? :=⟨h.cell 0,h.cell 1,h.cell 2,h.cell 3,h.cell 4,h.cell 5,h.cell 6,h.cell 7,h.cell 8,h.cell 9,h.cell 10,h.cell 11,h.cell 12⟩
theorem ai.free{g:Nat}{t:TypeId}{cs:Array Value}(h:ai w g t cs)(i:Nat):w.frozen? ⟨g,i,none⟩=false:=by
 unfold ai at h;simp[World.frozen?,h]
theorem ai.made(w:World)(t:TypeId)(cs:Array Value):ai (w.alloc (.cells cs t)) w t cs:=heap_alloc_new w _
theorem ai.below{g:Nat}{t:TypeId}{cs:Array Value}{B:Nat}(h:ai w g t cs)(a7:Below B w w')(hg:g<B):ai w' g t cs:=(a7.block g hg).trans h
theorem ai.grown{g:Nat}{t:TypeId}{cs:Array Value}{row:Option Nat}(h:ai w g t cs)(a7:w.grownBy w' row)(hg:some g≠row):ai w' g t cs:=(a7.block g h.lt hg).trans h
theorem ai.goes{g:Nat}{t:TypeId}{cs:Array Value}{S S':Nat->Prop}(h:ai w g t cs)(a7:Goes S w S' w')(hg:¬S g):ai w' g t cs:=(a7.aI g h.lt hg).trans h
theorem ai.alloc{g:Nat}{t:TypeId}{cs:Array Value}(h:ai w g t cs)(o:Obj):ai (w.alloc o) g t cs:=(Below.heap_alloc w o g h.lt).trans h
theorem ai.put{g:Nat}{t:TypeId}{cs:Array Value}(h:ai w g t cs)(i:Nat)(u:Value):ai (w.setCell ⟨g,i,none⟩ u) g t (cs.setIfInBounds i u):=by
 unfold ai at h ⊢;simp[World.setCell,Array.getElem?_modify,h]
theorem ai.dA{g:Nat}{t:TypeId}{cs:Array Value}(h:ai w g t cs){p:Addr}(hp:g≠p.block)(u:Value):ai (w.setCell p u) g t cs:=(Below.heap_setCell w p u g hp).trans h
end
def Src(w:World)(A:Option Addr)(xs:List Value):Prop:=xs=[]\/∃b off,A=some ⟨b,off,none⟩/\∀j u,xs[j]? =some u->w.cell? ⟨b,off+j,none⟩=some u
theorem a6.src{w:World}{S:Nat->Prop}{A:Option Addr}{xs:List Value}(h:a6 w S A xs):Src w A xs:=by
 rcases h with h | ⟨b,off,hA,_,_,hc⟩
 ·exact .inl h
 ·exact .inr ⟨b,off,hA,hc⟩
theorem Src.made(w:World)(t:TypeId)(cs:List Value):Src (w.alloc (.cells cs.toArray t)) (aj w) cs:=by
 refine .inr ⟨_,_,rfl,λj u hu=>?_⟩;rw[Nat.zero_add,cell_of_row _ _ _ _ _ (0,0) (heap_alloc_new w _)];simpa using hu
section
variable {P:Program}(w:World)
theorem dw(base k:Nat)(t ty e:TypeId)(i:TypeInfo)(ht:P.underlying t=some (.slice e))(hi:P.info? e=some i)(v:Value)(n:Nat)(xs:List Value)(J:w.ownsRow base e k v n xs)(c:Nat):
 (Builtin.append_ #[t,t] ty #[v,Y none 0 c]).run P w=.ok v w:=by
 rcases J.2 with⟨rfl,rfl⟩ | ⟨g,cap,cur,rfl,_,_,aA,_⟩
 ·simp[Builtin.append_,run_underlying ht,sizeOf,typeInfo,hi,Builtin.lenOf,Builtin.firstCells]
 ·simp[Builtin.append_,run_underlying ht,sizeOf,typeInfo,hi,Builtin.lenOf,Builtin.firstCells,aA,storeCells]
theorem eg(base k:Nat)(t ty e:TypeId)(i:TypeInfo)(z:Value)(bytes:Nat)(ht:P.underlying t=some (.slice e))(hi:P.info? e=some i)(hz:i.zero=some z)
 (M:i.size=k) (bR:i.bytes=bytes) (bB:z.cells.size=k) (hk:0<k)
 (v:Value) (n:Nat) (xs:List Value) (J:w.ownsRow base e k v n xs)
 (A:Option Addr) (m c:Nat) (news:List Value) (hl:news.length=m*k) (hr:Src w A news) (h1:∀u∈news,u.oneCell'=true)
 (af:n+m<=maxLen) (I:(n+m)*bytes<=140737488355328) (av:base<=w.heap.size):
 ∃A' c' w',(Builtin.append_ #[t,t] ty #[v,Y A m c]).run P w=.ok (Y A' (n+m) c') w'/\w'.ownsRow base e k (Y A' (n+m) c') (n+m) (xs++news)/\w.grownBy w' v.ownBlock/\
  ((Value.slice A' (n+m) c').ownBlock=v.ownBlock\/(Value.slice A' (n+m) c').ownBlock=some w.heap.size):=by
 suffices hh:∃v' w',(Builtin.append_ #[t,t] ty #[v,Y A m c]).run P w=.ok v' w'/\w'.ownsRow base e k v' (n+m) (xs++news)/\w.grownBy w' v.ownBlock/\
  (v'.ownBlock=v.ownBlock\/v'.ownBlock=some w.heap.size) by
  obtain⟨v',w',aa,h2,a1,h4⟩:=hh;obtain⟨A',c',rfl⟩:=eH h2;exact⟨A',c',w',aa,h2,a1,h4⟩
 by_cases aL:news=[]
 ·have hm:m=0:=by
   subst aL;have h0:m*k=0:=(by simpa using hl.symm);rcases Nat.mul_eq_zero.1 h0 with h | h<;>omega
  subst aL hm;cases A with
  | none=>exact⟨v,w,dw w base k t ty e i ht hi v n xs J c,by simpa using J,World.grownBy.refl w _,.inl rfl⟩
  | some a=>
   obtain⟨v',w',aa,h2,a1,_,bi⟩:=run_append_own_at (P:=P) w base t ty e i z k bytes ht hi hz M bR bB hk v n xs J a 0 c [] (by simp) (λj u hu=>by simp at hu) h1 af I av;exact⟨v',w',aa,h2,a1,bi⟩
 ·rcases hr with hr | ⟨b,off,rfl,hc⟩
  ·exact absurd hr aL
  ·obtain⟨v',w',aa,h2,a1,_,bi⟩:=run_append_own_at (P:=P) w base t ty e i z k bytes ht hi hz M bR bB hk v n xs J ⟨b,off,none⟩ m c news hl
    (λj u hu=>by rw[Addr.add_lit];exact hc j u hu) h1 af I av
   exact⟨v',w',aa,h2,a1,bi⟩
theorem ca{ops:Array Oper}{rest:List Oper}{o:Oper}{a:Act}{Q:Exit->Act->World->Prop}(ae:o.guard=none)(s x:Operand)(t:TypeId)
 (ho:o.op=.call {callee:=.builtin .append,args:=#[s,x],argTypes:=#[t,t]})
 (base k:Nat) (e:TypeId) (i:TypeInfo) (z:Value) (bytes:Nat) (ht:P.underlying t=some (.slice e)) (hi:P.info? e=some i) (hz:i.zero=some z)
 (M:i.size=k) (bR:i.bytes=bytes) (bB:z.cells.size=k) (hk:0<k)
 (v:Value) (n:Nat) (xs:List Value) (hs:a.eval s=v) (J:w.ownsRow base e k v n xs)
 (A:Option Addr) (m c:Nat) (news:List Value) (hx:a.eval x=Y A m c) (hm:news.length=m*k) (hr:Src w A news) (h1:∀u∈news,u.oneCell'=true)
 (af:n+m<=maxLen) (I:(n+m)*bytes<=140737488355328) (av:base<=w.heap.size)
 (h:∀A' c' w',w'.ownsRow base e k (Y A' (n+m) c') (n+m) (xs++news)->w.grownBy w' v.ownBlock->((Value.slice A' (n+m) c').ownBlock=v.ownBlock\/(Value.slice A' (n+m) c').ownBlock=some w.heap.size)->wpList P ops Q rest (a.put o.dst (Y A' (n+m) c')) w'):wpList P ops Q (o::rest) a w:=by
 refine wpList_plain ae λK ad=>?_;obtain⟨A',c',w',aa,h2,a1,h4⟩:=eg (P:=P) w base k t o.type e i z bytes ht hi hz M bR bB hk v n xs J A m c news hm hr h1 af I av;unfold Oper.wp execOp;simp only[ho,resolve,invoke,builtin,Sem.run_bind,Sem.run_pure,Result.andThen_ok,List.map_toArray,List.map_cons,List.map_nil,hs,hx,aa];exact ad _ _ (h A' c' w' h2 a1 h4)
theorem ej{ops:Array Oper}{o:Oper}{a:Act}{K:Act->World->Prop}{Q:Exit->Act->World->Prop}{E:Prop}(ae:o.guard=none)(s x:Operand)(t:TypeId)
 (ho:o.op=.call {callee:=.builtin .append,args:=#[s,x],argTypes:=#[t,t]})
 (base k:Nat) (e:TypeId) (i:TypeInfo) (z:Value) (bytes:Nat) (ht:P.underlying t=some (.slice e)) (hi:P.info? e=some i) (hz:i.zero=some z)
 (M:i.size=k) (bR:i.bytes=bytes) (bB:z.cells.size=k) (hk:0<k)
 (v:Value) (n:Nat) (xs:List Value) (hs:a.eval s=v) (J:w.ownsRow base e k v n xs)
 (A:Option Addr) (m c:Nat) (news:List Value) (hx:a.eval x=Y A m c) (hm:news.length=m*k) (hr:Src w A news) (h1:∀u∈news,u.oneCell'=true)
 (af:n+m<=maxLen) (I:(n+m)*bytes<=140737488355328) (av:base<=w.heap.size)
 (h:∀A' c' w',w'.ownsRow base e k (Y A' (n+m) c') (n+m) (xs++news)->w.grownBy w' v.ownBlock->((Value.slice A' (n+m) c').ownBlock=v.ownBlock\/(Value.slice A' (n+m) c').ownBlock=some w.heap.size)->K (a.put o.dst (Y A' (n+m) c')) w'):
 if Region.wanted o (yielded ops a.tmps)=true then Oper.wp P o a w K Q else E:=by
 have hw:Region.wanted o (yielded ops a.tmps)=true:=by simp[Region.wanted,ae]
 rw[if_pos hw];obtain⟨A',c',w',aa,h2,a1,h4⟩:=eg (P:=P) w base k t o.type e i z bytes ht hi hz M bR bB hk v n xs J A m c news hm hr h1 af I av;unfold Oper.wp execOp;simp only[ho,resolve,invoke,builtin,Sem.run_bind,Sem.run_pure,Result.andThen_ok,List.map_toArray,List.map_cons,List.map_nil,hs,hx,aa];exact h A' c' w' h2 a1 h4
end
def aA(l:List UInt8):List Value:=l.map λc=>.int .u8 (c.toNat:Int)
theorem aU(l:List UInt8):(aA l).length=l.length:=by simp[aA]
theorem cm(a b:List UInt8):aA (a++b)=aA a++aA b:=by simp[aA]
theorem lP(l:List UInt8)(k n:Nat):((aA l).drop k).take n=aA ((l.drop k).take n):=by simp[aA,List.map_take,List.map_drop]
theorem eo(l:List UInt8){k:Nat}(h:k<l.length):(aA l)[k]? =some (.int .u8 (l[k].toNat:Int)):=by simp[aA,h]
theorem dT(l:List UInt8):∀u∈aA l,u.oneCell'=true:=by
 intro u hu;simp only[aA,List.mem_map]at hu;obtain⟨c,_,rfl⟩:=hu;rfl
abbrev Bytes(w:World)(S:Nat->Prop)(A:Option Addr)(l:List UInt8):Prop:=a6 w S A (aA l)
theorem a6.byte{w:World}{S:Nat->Prop}{A:Option Addr}{l:List UInt8}(h:Bytes w S A l){k:Nat}(hk:k<l.length):
 ∃b off,A=some ⟨b,off,none⟩/\w.cell? ⟨b,off+k,none⟩=some (.int .u8 (l[k].toNat:Int)):=by
 obtain⟨b,off,hA,_,_,hc⟩:=h.open_ (by rw[aU];omega);exact⟨b,off,hA,hc k _ (eo l hk)⟩
section
variable {P:Program}
theorem jH(w:World)(src dst e:TypeId){S:Nat->Prop}{A:Option Addr}{l:List UInt8}(h:Bytes w S A l)(hs:P.underlying src=some (.slice e))(he:P.underlying e=some (.int .u8))(hd:P.underlying dst=some .string)(n c:Nat)(aL:n=l.length):
 (convert src dst (Y A n c)).run P w=.ok (.string ⟨l.toArray⟩) w:=by
 subst aL;by_cases h0:l=[]
 ·subst h0;cases A with
  | none=>exact run_convert_bytes_nil (P:=P) w src e hs he 0 c dst hd
  | some a=>exact run_convert_bytes_back (P:=P) w src dst e a c [] hs he hd (λj hj=>by simp at hj)
 ·obtain⟨b,off,rfl,_,_,hc⟩:=h.open_ (by rw[aU];exact List.length_pos_iff.2 h0);refine run_convert_bytes_back (P:=P) w src dst e _ c l hs he hd (λj hj=>?_);rw[Addr.add_lit];exact hc j _ (eo l hj)
end
structure dD (α:Type) where
 k:Nat
 R:World->(Nat->Prop)->List Value->α->Prop
 len:∀ {w S u a},R w S u a->u.length=k
 one:∀ {w S u a},R w S u a->∀v∈u,v.oneCell'=true
 goes:∀ {w w' S S' u a},R w S u a->Goes S w S' w'->R w' S' u a
def SliceAt{α:Type}(r:dD α)(w:World)(S:Nat->Prop)(A:Option Addr)(l:List α):Prop:=
 ∃us:List (List Value),a6 w S A us.flatten/\us.length=l.length/\∀ (i:Nat) (u:List Value) (a:α),us[i]? =some u->l[i]? =some a->r.R w S u a
theorem eh{k:Nat}:∀ (us:List (List Value)),(∀u∈us,u.length=k)->∀ (i j:Nat) (u:List Value),us[i]? =some u->j<k->us.flatten[i*k+j]? =u[j]?
 | [],_,i,j,u,hu,_=>by simp at hu
 | x::us,h,0,j,u,hu,hj=>by
  simp at hu;subst hu;have:=h x (by simp);simp[List.getElem?_append_left (by omega:j<x.length)]
 | x::us,h,i+1,j,u,hu,hj=>by
  have hx:=h x (by simp);rw[List.flatten_cons,List.getElem?_append_right (by rw[hx,Nat.add_mul];omega),hx];rw[show(i+1)*k+j-k=i*k+j by rw[Nat.add_mul];omega];exact eh us (λu hu=>h u (by simp[hu])) i j u (by simpa using hu) hj
theorem cd{k:Nat}:∀ (us:List (List Value)),(∀u∈us,u.length=k)->us.flatten.length=us.length*k
 | [],_=>by simp
 | x::us,h=>by
  rw[List.flatten_cons,List.length_append,h x (by simp),cd us (λu hu=>h u (by simp[hu])),List.length_cons,Nat.add_mul];omega
section
variable {α:Type}{r:dD α}{w w':World}{S S':Nat->Prop}{A:Option Addr}{l:List α}
theorem SliceAt.nil(r:dD α)(w:World)(S:Nat->Prop)(A:Option Addr):SliceAt r w S A []:=⟨[],.inl rfl,rfl,λi u a h=>by simp at h⟩
theorem SliceAt.goes(h:SliceAt r w S A l)(g:Goes S w S' w'):SliceAt r w' S' A l:=by
 obtain⟨us,h1,h2,a1⟩:=h;exact⟨us,h1.goes g,h2,λi u a hu ha=>r.goes (a1 i u a hu ha) g⟩
theorem SliceAt.below(h:SliceAt r w S A l)(a7:Below w w w'):SliceAt r w' S A l:=h.goes (.ao a7 S)
theorem ip{us:List (List Value)}(h2:us.length=l.length)(a1:∀ (i:Nat) (u:List Value) (a:α),us[i]? =some u->l[i]? =some a->r.R w S u a):∀u∈us,∃a,r.R w S u a:=λu hu=>by
 obtain⟨i,hi,rfl⟩:=List.getElem_of_mem hu;exact⟨l[i]'(by omega),a1 i _ _ (List.getElem?_eq_getElem hi) (List.getElem?_eq_getElem (by omega))⟩
theorem SliceAt.at_(h:SliceAt r w S A l){i:Nat}(hi:i<l.length)(hk:0<r.k):
 ∃b off u,A=some ⟨b,off,none⟩/\b<w.heap.size/\¬S b/\u.length=r.k/\(∀j v,u[j]? =some v->w.cell? ⟨b,off+i*r.k+j,none⟩=some v)/\r.R w S u l[i]:=by
 obtain⟨us,h1,h2,a1⟩:=h;have hl:∀u∈us,u.length=r.k:=λu hu=>by
  obtain⟨a,ha⟩:=ip h2 a1 u hu;exact r.len ha
 have aI:=a1 i us[i] l[i] (List.getElem?_eq_getElem (by omega)) (List.getElem?_eq_getElem hi);have ae:0<us.flatten.length:=by
  rw[cd us hl];exact Nat.mul_pos (by omega) hk
 obtain⟨b,off,hA,a7,hs,hc⟩:=h1.open_ ae;refine⟨b,off,us[i],hA,a7,hs,r.len aI,λj v hv=>?_,aI⟩;have hj:j<r.k:=by
  have:=(List.getElem?_eq_some_iff.1 hv).1;rw[r.len aI]at this;exact this
 rw[Nat.add_assoc];exact hc _ v ((eh us hl i j _ (List.getElem?_eq_getElem (by omega)) hj).trans hv)
theorem SliceAt.eu{base e n c:Nat}{us:List (List Value)}(h:w.ownsRow base e r.k (Y A n c) n us.flatten)(hS:∀b,S b->b<base)(h2:us.length=l.length)(a1:∀ (i:Nat) (u:List Value) (a:α),us[i]? =some u->l[i]? =some a->r.R w S u a):SliceAt r w S A l:=
 ⟨us,a6.eu h hS,h2,a1⟩
theorem SliceAt.cut(h:SliceAt r w S A l){k n:Nat}(hk:k+n<=l.length)(A':Option Addr)(hA:0<n->A'=A.map (·.add (k*r.k))):SliceAt r w S A' ((l.drop k).take n):=by
 obtain⟨us,h1,h2,a1⟩:=h;have hl:∀u∈us,u.length=r.k:=λu hu=>by
  obtain⟨a,ha⟩:=ip h2 a1 u hu;exact r.len ha
 refine⟨(us.drop k).take n,?_,by simp[h2],λi u a hu ha=>?_⟩
 ·have hf:((us.drop k).take n).flatten=(us.flatten.drop (k*r.k)).take (n*r.k):=by
   apply List.ext_getElem?;intro j;have b9:∀u∈(us.drop k).take n,u.length=r.k:=λu hu=>hl u (List.mem_of_mem_drop (List.mem_of_mem_take hu));by_cases bj:r.k=0
   ·have e1:((us.drop k).take n).flatten.length=0:=(by rw[cd _ b9,bj,Nat.mul_zero]);rw[List.eq_nil_of_length_eq_zero e1];simp[bj]
   by_cases hj:j<n*r.k
   ·have hdiv:j / r.k<n:=(Nat.div_lt_iff_lt_mul (by omega)).2 hj;have af:j=j / r.k*r.k+j % r.k:=(by have:=Nat.div_add_mod j r.k;rw[Nat.mul_comm]at this;omega);have ad:j % r.k<r.k:=Nat.mod_lt _ (by omega);have hlen:k+j / r.k<us.length:=(by omega);have g1:((us.drop k).take n)[j / r.k]? =some us[k+j / r.k]:=by
     rw[List.getElem?_take_of_lt hdiv,List.getElem?_drop,List.getElem?_eq_getElem hlen]
    rw[List.getElem?_take_of_lt hj,List.getElem?_drop];have bg:=eh _ b9 _ (j % r.k) _ g1 ad;have a2:=eh us hl (k+j / r.k) (j % r.k) _ (List.getElem?_eq_getElem hlen) ad;rw[<-af]at bg;rw[bg,<-a2];congr 1;rw[Nat.add_mul];omega
   ·rw[List.getElem?_eq_none (by rw[cd _ b9,List.length_take,List.length_drop,show min n (us.length-k)=n by omega];exact Nat.le_of_not_lt hj),List.getElem?_eq_none (by simp;omega)]
  rw[hf];refine h1.cut (by rw[cd us hl,h2,<-Nat.add_mul];exact Nat.mul_le_mul_right _ hk) A' (λaL=>hA ?_);rcases Nat.eq_zero_or_pos n with h0 | h0
  ·rw[h0,Nat.zero_mul]at aL;omega
  ·exact h0
 ·rw[List.getElem?_take]at hu ha;split at hu
  ·rename_i hi;rw[if_pos hi]at ha;rw[List.getElem?_drop]at hu ha;exact a1 _ u a hu ha
  ·cases hu
theorem SliceAt.src(h:SliceAt r w S A l):∃us:List (List Value),Src w A us.flatten/\us.flatten.length=l.length*r.k/\us.length=l.length/\(∀v∈us.flatten,v.oneCell'=true)/\∀ (i:Nat) (u:List Value) (a:α),us[i]? =some u->l[i]? =some a->r.R w S u a:=by
 obtain⟨us,h1,h2,a1⟩:=h;have hl:∀u∈us,u.length=r.k:=λu hu=>by
  obtain⟨a,ha⟩:=ip h2 a1 u hu;exact r.len ha
 refine⟨us,h1.src,by rw[cd us hl,h2],h2,λv hv=>?_,a1⟩;obtain⟨u,hu,hv⟩:=List.mem_flatten.1 hv;obtain⟨a,ha⟩:=ip h2 a1 u hu;exact r.one ha v hv
end
end
namespace Pk
def long(n:Nat):Nat:=if h:n=0 then 0 else long (n / 256)+1
 termination_by n
 decreasing_by omega
theorem gu:long 0=0:=by rw[long];simp
theorem ii{n:Nat}(h:0<n):long n=long (n / 256)+1:=by rw[long,dif_neg (by omega)]
theorem yP(k:Nat):∀ {n:Nat},n<256 ^ k->long n<=k:=by
 induction k with
 | zero=>
  intro n h;obtain rfl:n=0:=(by simpa using h);rw[gu];exact Nat.le_refl _
 | succ k M=>
  intro n h;by_cases h0:n=0
  ·subst h0;rw[gu];omega
  ·rw[ii (by omega)];have:=M (n:=n / 256) (Nat.div_lt_of_lt_mul (by rw[Nat.pow_succ,Nat.mul_comm]at h;exact h));omega
theorem fY{n:Nat}(h:n<18446744073709551616):long n<=8:=yP 8 (by simpa using h)
theorem sf(n:Nat):n<256 ^ long n:=by
 induction n using Nat.strongRecOn with
 | ind n M=>
  by_cases h0:n=0
  ·subst h0;simp[gu]
  ·rw[ii (by omega),Nat.pow_succ];have:=M (n / 256) (by omega);omega
theorem z3{n:Nat}(h:0<n):256 ^ (long n-1)<=n:=by
 induction n using Nat.strongRecOn with
 | ind n M=>
  rw[ii h];by_cases h1:n / 256=0
  ·rw[h1,gu];simp;omega
  ·have:=M (n / 256) (by omega) (by omega);rw[show long (n / 256)+1-1=(long (n / 256)-1)+1 by have:=ii (n:=n / 256) (by omega);omega,Nat.pow_succ];omega
def be(k n:Nat):List UInt8:=(List.range k).map λi=>UInt8.ofNat (n / 256 ^ (k-1-i))
theorem ht(k n:Nat):(be k n).length=k:=by simp[be]
def az(n:Nat):List UInt8:=UInt8.ofNat (long n)::be (long n) n
theorem bJ(n:Nat):(az n).length=1+long n:=by simp[az,ht];omega
def val(l:List UInt8):Nat:=l.foldl (λn c=>n*256+c.toNat) 0
theorem lg(l:List UInt8)(c:UInt8):val (l++[c])=val l*256+c.toNat:=by simp[val,List.foldl_append]
theorem yS(k n:Nat):be (k+1) n=be k (n / 256)++[UInt8.ofNat n]:=by
 unfold be;rw[List.range_succ,List.map_append];congr 1
 ·refine List.map_congr_left λj hj=>?_;rw[List.mem_range]at hj;rw[show k+1-1-j=(k-1-j)+1 by omega,Nat.pow_succ,Nat.mul_comm,Nat.div_div_eq_div_mul]
 ·simp
theorem Bg(k:Nat):∀n,n<256 ^ k->val (be k n)=n:=by
 induction k with
 | zero=>
  intro n h;obtain rfl:n=0:=(by simpa using h);rfl
 | succ k M=>
  intro n h;rw[yS,lg,M (n / 256) (Nat.div_lt_of_lt_mul (by rw[Nat.pow_succ,Nat.mul_comm]at h;exact h))];have:(UInt8.ofNat n).toNat=n % 256:=(by simp);rw[this];omega
def aQ(b:List UInt8):List UInt8:=az b.length++b
def Du(k n:Nat)(s:List UInt8):List UInt8:=az k++az n++aQ s
def eO(n:Int):Nat:=if n<0 then(2*(-(n+1))+1).toNat else(2*n).toNat
def fA(n:Nat):Int:=if n % 2=1 then -(n / 2:Nat)-1 else(n / 2:Nat)
theorem qD(n:Int):fA (eO n)=n:=by
 unfold fA eO;split<;>split<;>omega
theorem kg{n:Int}(h: -9223372036854775808<=n/\n<=9223372036854775807):eO n<18446744073709551616:=by
 unfold eO;split<;>omega
end Pk
theorem gg:(Tryz.prog.info? 5).map (λi=>(i.zero,i.size,i.bytes))=some (some (.int .u8 0),1,1):=by kernel_rfl
theorem Cy:(Tryz.prog.info? 5).map (·.size)=some 1:=by kernel_rfl
theorem wrap_u8(n:Nat)(x:Int)(hx:x=(n:Int)):Value.int .u8 (IntKind.u8.wrap x)=.int .u8 ((UInt8.ofNat n).toNat:Int):=by
 subst hx;congr 1
theorem m4{P:Program}(w:World){ops:Array Oper}{rest:List Oper}{o:Oper}{a:Act}{Q:Exit->Act->World->Prop}
 (hg:o.guard=none) (l c:Operand) (t:TypeId) (I:o.op=Op.makeSlice t l c)
 (e:TypeId) (i:TypeInfo) (z:Value) (h1:P.underlying t=some (.slice e)) (h2:P.info? e=some i) (a1:i.zero=some z)
 (J M:IntKind) (L C:Int) (n m:Nat) (hl:a.eval l=.int J L) (hc:a.eval c=.int M C) (hL:L=(n:Int)) (hC:C=(m:Int)) (db:n<=m) (b2:i.bytes*m<=281474976710656) (b3:m<=9223372036854775807)
 (ad:wpList P ops Q rest (a.put o.dst (Y (aj w) n m)) (w.alloc (.cells (madeCells z.cells (m*i.size)) e))):
 wpList P ops Q (o::rest) a w:=by
 refine wpList_plain hg λK hK'=>?_;subst hL hC;have aa:=run_make (P:=P) w t e i z h1 h2 a1 J M (n:Int) (m:Int) (by omega) (by omega) (by rw[<-Int.natCast_mul];omega) (by omega);unfold Oper.wp;simp[execOp,I,hl,hc,aa,Result.andThen];exact hK' _ _ ad
theorem ld(A:Option Addr)(n c m:Nat)(l:List UInt8)(w:World)(aL:l.length=n)(h:Src w A (aA l))(hm:n+m<=1000000000):
 Calls Tryz.prog 185 #[Y A n c,ag m] w λe w'=>∃A',e=.returned (Y A' n (n+m))/\w'.ownsRow w 5 1 (Y A' n (n+m)) n (aA l)/\Below w w w'/\A'=some ⟨w.heap.size,0,none⟩:=by
 obtain⟨i0,bM,bL,ae,aa⟩:=info_parts gg;have aq:(madeCells (Value.int .u8 0).cells ((n+m)*i0.size)).toList.length=n+m:=by rw[Array.length_toList,size_madeCells,ae,Nat.mul_one]
 obtain⟨cur,J⟩:=am ((madeCells (Value.int .u8 0).cells ((n+m)*i0.size)).toList);have bV:(w.alloc (.cells cur.toArray 5)).heap[w.heap.size]? =some (.cells cur.toArray 5 (0,0)):=heap_alloc_new w _;rw[<-J]at aq;have I:madeCells (Value.int .u8 0).cells ((n+m)*i0.size)=cur.toArray:=by rw[J]
 have M:=Lib.hid I;have ak:Below w w (w.alloc (.cells cur.toArray 5)):=(Below.refl _ _).alloc (Nat.le_refl _) _;have a3:∀A',A=A'->0<(aA l).length->∃ad,A'=some ad/\∀j v,(aA l)[j]? =some v->(w.alloc (.cells cur.toArray 5)).cell? (ad.add j)=some v:=λA' hA hp=>by
  subst hA;rcases h with h | ⟨b,off,rfl,hc⟩
  ·rw[h]at hp;simp at hp
  ·refine⟨_,rfl,λj v hv=>?_⟩;rw[Addr.add_lit];have:=hc j v hv;rw[World.cell?_alloc_lt _ _ _ (World.block_lt_of_cell? w _ this)];exact this
 clear J I h;go_enter Tryz.func185,Tryz.ntmps185;go_wp2_with (first
  | (at_make;refine m4 w rfl _ _ 97 rfl 5 i0 _ Tryz.underlying97 bM bL .i64 .i64 _ _ n (n+m) rfl rfl rfl (by first | rfl | (simp;done) | omega) (by omega) (by rw[aa];omega) (by omega) ?_;rw[M.out])
  | (refine wpList_copy_splice rfl (.tmp 13) (.tmp 14) 97 97 rfl 5 Tryz.underlying97 Cy (aj w) A n (n+m) n c rfl rfl w 0 cur 5 bV (aA l) (by rw[aU,aL];exact(Nat.min_self n).symm) (λhp=>⟨rfl,a3 A rfl hp⟩) (by rw[aU,aq];omega) (dT l) w w ak (Nat.le_refl _) ?_;intro w2 aF aG))
 go_ret;refine⟨_,rfl,⟨by rw[aU];omega,.inr ⟨_,_,_,rfl,Nat.le_refl _,aF.out,by omega,by unfold maxLen;omega,?_,?_⟩⟩,aG,rfl⟩
 ·rw[List.size_toArray,length_splice _ _ _ (by rw[aU,aq];omega),aq,Nat.mul_one]
 ·simp[splice,Nat.mul_one,aU,aL]
theorem wU(n:Nat)(w:World)(h:n<18446744073709551616):Calls Tryz.prog 293 #[av n] w λe w'=>e=.returned (ag (Pk.long n))/\w=w':=by
 have HL:=Lib.hid (Pk.fY h);go_enter Tryz.func293,Tryz.ntmps293;go_wp2
 go_loop [0,3] (λx i=>∃m k:Nat,x=I ak m/\i=I af k/\m<18446744073709551616/\Hid (k+Pk.long m=Pk.long n)) (λx _=>(intOf x).toNat)
 case atStart=>exact⟨n,0,rfl,rfl,h,Nat.zero_add _⟩
 case round=>
  obtain⟨m,k,rfl,rfl,hm,hk⟩:=hrel;by_cases h0:0<m
  ·have e1:(0:Int)<(m:Int):=(by omega);have hl:=Pk.ii h0;have au:k<8:=(by have:=hk.out;have:=HL.out;omega);have aq:Hid (k+1+Pk.long (m / 256)=Pk.long n):=(by have:=hk.out;show k+1+Pk.long (m / 256)=Pk.long n;omega);clear hl;go_wp2
   go_round
   case rel=>exact⟨m / 256,k+1,by go_num,by go_num,by omega,aq⟩
   case measure=>simp[intOf];omega
  ·have e1:(m:Int)<=0:=(by omega);have aq:k=Pk.long n:=(by have:=hk.out;rw[show m=0 by omega,Pk.gu]at this;omega);have HK:=Lib.hid aq;clear aq h0;go_wp2;go_ret;exact⟨congrArg _ (congrArg _ (congrArg _ HK.out)),rfl⟩
theorem fx{base n k x i:Nat}{l:List UInt8}{w2:World}{A2:Option Addr}{c2:Nat}{y:Int}(hi:i<k)(h:w2.ownsRow base 5 1 (Y A2 (n+1+i+1) c2) (n+1+i+1) (aA (l++UInt8.ofNat k::(Pk.be k x).take i)++[.int .u8 y]))(hy:y=((x / 256 ^ (k-1-i) % 256:Nat):Int)):
 w2.ownsRow base 5 1 (Y A2 (n+1+i+1) c2) (n+1+(i+1)) (aA (l++UInt8.ofNat k::(Pk.be k x).take (i+1))):=by
 have e:(Pk.be k x).take (i+1)=(Pk.be k x).take i++[UInt8.ofNat (x / 256 ^ (k-1-i))]:=by
  rw[List.take_succ_eq_append_getElem (by rw[Pk.ht];exact hi)];simp[Pk.be]
 have a5:aA (l++UInt8.ofNat k::(Pk.be k x).take (i+1))=aA (l++UInt8.ofNat k::(Pk.be k x).take i)++[.int .u8 y]:=by
  rw[e,<-List.cons_append,<-List.append_assoc,cm];congr 1;show [Value.int .u8 ((UInt8.ofNat (x / 256 ^ (k-1-i))).toNat:Int)]=_;rw[UInt8.toNat_ofNat',hy]
 rw[a5];exact h
theorem nK(base:Nat)(A:Option Addr)(n c x:Nat)(l:List UInt8)(w:World)(aL:l.length=n)(hx:x<18446744073709551616)(h:w.ownsRow base 5 1 (Y A n c) n (aA l))(a7:base<=w.heap.size)(hm:n<=1000000000):
 Calls Tryz.prog 245 #[Y A n c,av x] w λe w'=>∃A' c',e=.returned (Y A' (n+1+Pk.long x) c')/\w'.ownsRow base 5 1 (Y A' (n+1+Pk.long x) c') (n+1+Pk.long x) (aA (l++Pk.az x))/\Below base w w':=by
 obtain⟨i0,bM,bL,ae,aa⟩:=info_parts gg;obtain⟨k,hk⟩:=am (Pk.long x);have au:k<=8:=by rw[hk];exact Pk.fY hx
 have J:=wU x w hx;rw[<-hk]at J ⊢;have HK:=Lib.hid hk;have ad:(aA l).length=n:=by rw[aU,aL]
 clear hk;go_enter Tryz.func245,Tryz.ntmps245;go_wp2_with fail;refine J.mono ?_;rintro e w1 ⟨rfl,rfl⟩;have e5:Value.int .u8 (IntKind.u8.wrap (k:Int))=.int .u8 ((UInt8.ofNat k).toNat:Int):=wrap_u8 k _ rfl;go_wp2_with (at_builtin;refine ca _ rfl (.tmp 9) (.tmp 12) 97 rfl base 1 5 i0 _ 1 Tryz.underlying97 bM bL ae aa rfl (by omega) _ n _ rfl (aT h ((Below.refl _ w).alloc (Nat.le_refl _) _)) (aj w) 1 1 [_] rfl rfl (Src.made w 5 [_]) (by simp[Value.oneCell']) (by unfold maxLen;omega) (by omega) (by simp;omega) ?_;intro A1 c1 w1 M aN ai);have aY:Below base w w1:=((Below.refl base w).alloc a7 _).trans (bC (aT h ((Below.refl _ w).alloc (Nat.le_refl _) _)) aN (Nat.le_refl _) (by simp;omega));have bQ:base<=w1.heap.size:=Nat.le_trans a7 aY.size;have aQ:Hid (w1.ownsRow base 5 1 (Y A1 (n+1) c1) (n+1+0) (aA (l++UInt8.ofNat k::(Pk.be k x).take 0))):=by
  show w1.ownsRow base 5 1 (Y A1 (n+1) c1) (n+1+0) (aA (l++UInt8.ofNat k::(Pk.be k x).take 0));have e:aA (l++UInt8.ofNat k::(Pk.be k x).take 0)=aA l++[.int .u8 (k:Int)]:=by
   rw[List.take_zero,cm];congr 1;show [Value.int .u8 ((UInt8.ofNat k).toNat:Int)]=_;rw[UInt8.toNat_ofNat',show k % 2 ^ 8=k by omega]
  rw[e];exact M
 clear M aN ai h
 go_loopw [0,15] (λs_ i_ wr=>∃ (i:Nat) (Ai:Option Addr) (ci:Nat),i_=I af i/\i<=k/\s_=Y Ai (n+1+i) ci/\Hid (wr.ownsRow base 5 1 (Y Ai (n+1+i) ci) (n+1+i) (aA (l++UInt8.ofNat k::(Pk.be k x).take i)))/\Below base w wr) (λ_ i _=>k- (intOf i).toNat)
 case atStart=>exact⟨0,A1,c1,rfl,by omega,rfl,aQ,aY⟩
 case round=>
  obtain⟨i,Ai,ci,rfl,hi,rfl,aQ,aK⟩:=hrel;have aB:=Nat.le_trans a7 aK.size;by_cases bA:i<k
  ·have bE:(i:Int)<(k:Int):=(by omega);obtain⟨d,hd⟩:∃d,k=i+d+1:=⟨k-i-1,by omega⟩;have hD:(k:Int)-1- (i:Int)=(d:Int):=(by omega);have kz:d<=7:=(by omega);have HD:=Lib.hid hd;clear hd;obtain rfl | rfl | rfl | rfl | rfl | rfl | rfl | rfl:d=0\/d=1\/d=2\/d=3\/d=4\/d=5\/d=6\/d=7:=by omega
   focus
    go_wp2_with (at_builtin;refine ca _ rfl (.tmp 18) (.tmp 27) 97 rfl base 1 5 i0 _ 1 Tryz.underlying97 bM bL ae aa rfl (by omega) _ (n+1+i) _ rfl (aT aQ.out ((Below.refl _ wr).alloc (Nat.le_refl _) _)) (aj wr) 1 1 [_] rfl rfl (Src.made wr 5 [_]) (by simp[Value.oneCell']) (by unfold maxLen;omega) (by omega) (by simp;omega) ?_;intro A2 c2 w2 ah aF ao);have aG:=(aK.alloc aB _).trans (bC (aT aQ.out ((Below.refl _ wr).alloc (Nat.le_refl _) _)) aF (Nat.le_refl _) (by simp;omega));have ar:Hid (w2.ownsRow base 5 1 (Y A2 (n+1+i+1) c2) (n+1+(i+1)) (aA (l++UInt8.ofNat k::(Pk.be k x).take (i+1)))):=fx bA ah (by rw[show k-1-i=0 by have:=HD.out;omega];simp<;>omega)
   rotate_left
   focus
    go_wp2_with (at_builtin;refine ca _ rfl (.tmp 18) (.tmp 27) 97 rfl base 1 5 i0 _ 1 Tryz.underlying97 bM bL ae aa rfl (by omega) _ (n+1+i) _ rfl (aT aQ.out ((Below.refl _ wr).alloc (Nat.le_refl _) _)) (aj wr) 1 1 [_] rfl rfl (Src.made wr 5 [_]) (by simp[Value.oneCell']) (by unfold maxLen;omega) (by omega) (by simp;omega) ?_;intro A2 c2 w2 ah aF ao);have aG:=(aK.alloc aB _).trans (bC (aT aQ.out ((Below.refl _ wr).alloc (Nat.le_refl _) _)) aF (Nat.le_refl _) (by simp;omega));have ar:Hid (w2.ownsRow base 5 1 (Y A2 (n+1+i+1) c2) (n+1+(i+1)) (aA (l++UInt8.ofNat k::(Pk.be k x).take (i+1)))):=fx bA ah (by rw[show k-1-i=1 by have:=HD.out;omega];simp<;>omega)
   rotate_left
   focus
    go_wp2_with (at_builtin;refine ca _ rfl (.tmp 18) (.tmp 27) 97 rfl base 1 5 i0 _ 1 Tryz.underlying97 bM bL ae aa rfl (by omega) _ (n+1+i) _ rfl (aT aQ.out ((Below.refl _ wr).alloc (Nat.le_refl _) _)) (aj wr) 1 1 [_] rfl rfl (Src.made wr 5 [_]) (by simp[Value.oneCell']) (by unfold maxLen;omega) (by omega) (by simp;omega) ?_;intro A2 c2 w2 ah aF ao);have aG:=(aK.alloc aB _).trans (bC (aT aQ.out ((Below.refl _ wr).alloc (Nat.le_refl _) _)) aF (Nat.le_refl _) (by simp;omega));have ar:Hid (w2.ownsRow base 5 1 (Y A2 (n+1+i+1) c2) (n+1+(i+1)) (aA (l++UInt8.ofNat k::(Pk.be k x).take (i+1)))):=fx bA ah (by rw[show k-1-i=2 by have:=HD.out;omega];simp<;>omega)
   rotate_left
   focus
    go_wp2_with (at_builtin;refine ca _ rfl (.tmp 18) (.tmp 27) 97 rfl base 1 5 i0 _ 1 Tryz.underlying97 bM bL ae aa rfl (by omega) _ (n+1+i) _ rfl (aT aQ.out ((Below.refl _ wr).alloc (Nat.le_refl _) _)) (aj wr) 1 1 [_] rfl rfl (Src.made wr 5 [_]) (by simp[Value.oneCell']) (by unfold maxLen;omega) (by omega) (by simp;omega) ?_;intro A2 c2 w2 ah aF ao);have aG:=(aK.alloc aB _).trans (bC (aT aQ.out ((Below.refl _ wr).alloc (Nat.le_refl _) _)) aF (Nat.le_refl _) (by simp;omega));have ar:Hid (w2.ownsRow base 5 1 (Y A2 (n+1+i+1) c2) (n+1+(i+1)) (aA (l++UInt8.ofNat k::(Pk.be k x).take (i+1)))):=fx bA ah (by rw[show k-1-i=3 by have:=HD.out;omega];simp<;>omega)
   rotate_left
   focus
    go_wp2_with (at_builtin;refine ca _ rfl (.tmp 18) (.tmp 27) 97 rfl base 1 5 i0 _ 1 Tryz.underlying97 bM bL ae aa rfl (by omega) _ (n+1+i) _ rfl (aT aQ.out ((Below.refl _ wr).alloc (Nat.le_refl _) _)) (aj wr) 1 1 [_] rfl rfl (Src.made wr 5 [_]) (by simp[Value.oneCell']) (by unfold maxLen;omega) (by omega) (by simp;omega) ?_;intro A2 c2 w2 ah aF ao);have aG:=(aK.alloc aB _).trans (bC (aT aQ.out ((Below.refl _ wr).alloc (Nat.le_refl _) _)) aF (Nat.le_refl _) (by simp;omega));have ar:Hid (w2.ownsRow base 5 1 (Y A2 (n+1+i+1) c2) (n+1+(i+1)) (aA (l++UInt8.ofNat k::(Pk.be k x).take (i+1)))):=fx bA ah (by rw[show k-1-i=4 by have:=HD.out;omega];simp<;>omega)
   rotate_left
   focus
    go_wp2_with (at_builtin;refine ca _ rfl (.tmp 18) (.tmp 27) 97 rfl base 1 5 i0 _ 1 Tryz.underlying97 bM bL ae aa rfl (by omega) _ (n+1+i) _ rfl (aT aQ.out ((Below.refl _ wr).alloc (Nat.le_refl _) _)) (aj wr) 1 1 [_] rfl rfl (Src.made wr 5 [_]) (by simp[Value.oneCell']) (by unfold maxLen;omega) (by omega) (by simp;omega) ?_;intro A2 c2 w2 ah aF ao);have aG:=(aK.alloc aB _).trans (bC (aT aQ.out ((Below.refl _ wr).alloc (Nat.le_refl _) _)) aF (Nat.le_refl _) (by simp;omega));have ar:Hid (w2.ownsRow base 5 1 (Y A2 (n+1+i+1) c2) (n+1+(i+1)) (aA (l++UInt8.ofNat k::(Pk.be k x).take (i+1)))):=fx bA ah (by rw[show k-1-i=5 by have:=HD.out;omega];simp<;>omega)
   rotate_left
   focus
    go_wp2_with (at_builtin;refine ca _ rfl (.tmp 18) (.tmp 27) 97 rfl base 1 5 i0 _ 1 Tryz.underlying97 bM bL ae aa rfl (by omega) _ (n+1+i) _ rfl (aT aQ.out ((Below.refl _ wr).alloc (Nat.le_refl _) _)) (aj wr) 1 1 [_] rfl rfl (Src.made wr 5 [_]) (by simp[Value.oneCell']) (by unfold maxLen;omega) (by omega) (by simp;omega) ?_;intro A2 c2 w2 ah aF ao);have aG:=(aK.alloc aB _).trans (bC (aT aQ.out ((Below.refl _ wr).alloc (Nat.le_refl _) _)) aF (Nat.le_refl _) (by simp;omega));have ar:Hid (w2.ownsRow base 5 1 (Y A2 (n+1+i+1) c2) (n+1+(i+1)) (aA (l++UInt8.ofNat k::(Pk.be k x).take (i+1)))):=fx bA ah (by rw[show k-1-i=6 by have:=HD.out;omega];simp<;>omega)
   rotate_left
   focus
    go_wp2_with (at_builtin;refine ca _ rfl (.tmp 18) (.tmp 27) 97 rfl base 1 5 i0 _ 1 Tryz.underlying97 bM bL ae aa rfl (by omega) _ (n+1+i) _ rfl (aT aQ.out ((Below.refl _ wr).alloc (Nat.le_refl _) _)) (aj wr) 1 1 [_] rfl rfl (Src.made wr 5 [_]) (by simp[Value.oneCell']) (by unfold maxLen;omega) (by omega) (by simp;omega) ?_;intro A2 c2 w2 ah aF ao);have aG:=(aK.alloc aB _).trans (bC (aT aQ.out ((Below.refl _ wr).alloc (Nat.le_refl _) _)) aF (Nat.le_refl _) (by simp;omega));have ar:Hid (w2.ownsRow base 5 1 (Y A2 (n+1+i+1) c2) (n+1+(i+1)) (aA (l++UInt8.ofNat k::(Pk.be k x).take (i+1)))):=fx bA ah (by rw[show k-1-i=7 by have:=HD.out;omega];simp<;>omega)
   all_goals
    clear ah aF ao
    go_roundw
    case rel=>exact⟨i+1,A2,c2,by go_num,by omega,rfl,ar,aG⟩
    case measure=>simp[intOf];omega
  ·obtain rfl:i=k:=(by omega);have ag:Hid (wr.ownsRow base 5 1 (Y Ai (n+1+i) ci) (n+1+i) (aA (l++Pk.az x))):=by
    have:=aQ.out;rw[List.take_of_length_le (by rw[Pk.ht];exact Nat.le_refl _),HK.out]at this;show wr.ownsRow base 5 1 (Y Ai (n+1+i) ci) (n+1+i) (aA (l++Pk.az x));rw[HK.out];exact this
   clear aQ bA;go_wp2_with fail;go_ret;exact⟨_,_,rfl,ag.out,aK⟩
def Row(w:World)(base:Nat)(v:Value)(l:List UInt8):Prop:=∃A c,v=Y A l.length c/\w.ownsRow base 5 1 v l.length (aA l)
theorem Row.below{w w':World}{base:Nat}{v:Value}{l:List UInt8}(h:Row w base v l)(a7:Below w w w'):Row w' base v l:=by
 obtain⟨A,c,h1,h2⟩:=h;exact⟨A,c,h1,aT h2 a7⟩
theorem Row.mono{w:World}{base base':Nat}{v:Value}{l:List UInt8}(h:Row w base v l)(a7:base'<=base):Row w base' v l:=by
 obtain⟨A,c,h1,h2⟩:=h;exact⟨A,c,h1,dt h2 a7⟩
theorem Row.src{w:World}{base:Nat}{A:Option Addr}{n c:Nat}{l:List UInt8}(h:Row w base (Y A n c) l):n=l.length/\Src w A (aA l):=by
 obtain⟨A',c',e,h2⟩:=h;injection e with e1 a5 e3;subst e1 a5 e3;exact⟨rfl,(a6.eu (S:=λ_=>False) h2 (λ_ h=>h.elim)).src⟩
theorem Row.bytes{w:World}{S:Nat->Prop}{base:Nat}{A:Option Addr}{n c:Nat}{l:List UInt8}(h:Row w base (Y A n c) l)(hS:∀b,S b->b<base):Bytes w S A l:=by
 obtain⟨A',c',e,h2⟩:=h;injection e with e1 a5 e3;subst e1 a5 e3;exact a6.eu h2 hS
theorem Row.form{w:World}{base:Nat}{v:Value}{l:List UInt8}(h:Row w base v l):∃A c,v=Y A l.length c/\l.length<=c:=by
 obtain⟨A,c,e,h2⟩:=h;subst e;exact⟨A,c,rfl,fR h2⟩
theorem Row.open_{w:World}{base:Nat}{v:Value}{l:List UInt8}(h:Row w base v l):∃A n c,v=Y A n c/\Hid (l.length=n)/\n<=c:=by
 obtain⟨A,c,e,h2⟩:=h;subst e;exact⟨A,_,c,rfl,(rfl:l.length=l.length),fR h2⟩
theorem kU{w:World}{base n c:Nat}{A:Option Addr}{l:List UInt8}(hl:l.length=n)(h:w.ownsRow base 5 1 (Y A n c) n (aA l)):Row w base (Y A n c) l:=by
 subst hl;exact⟨A,c,rfl,h⟩
theorem b7(A:Option Addr)(n c x:Nat)(l:List UInt8)(w:World)(aL:l.length=n)(hx:x<18446744073709551616)(h:Src w A (aA l))(hm:n<=900000000):
 Calls Tryz.prog 190 #[Y A n c,av x] w λe w'=>∃v,e=.returned v/\Row w' w v (l++Pk.az x)/\Below w w w':=by
 go_enter Tryz.func190,Tryz.ntmps190;go_wp2_with fail;have ho:=ld A n c 9 l w aL h (by omega);refine ho.mono ?_;clear ho;rintro e w1 ⟨A1,rfl,h1,aY,-⟩;go_wp2_with fail;refine(nK w A1 n (n+9) x l w1 aL hx h1 aY.size (by omega)).mono ?_;rintro e w2 ⟨A2,c2,rfl,h2,aG⟩;go_wp2_with fail;go_ret;have hlen:(l++Pk.az x).length=n+1+Pk.long x:=by rw[List.length_append,Pk.bJ,aL];omega
 exact⟨_,rfl,kU hlen h2,aY.trans aG⟩
theorem im(A A2:Option Addr)(n c aZ c2:Nat)(l b:List UInt8)(w:World)(aL:l.length=n)(aO:b.length=aZ)(h:Src w A (aA l))(h2:Src w A2 (aA b))(hm:n<=900000000)(a9:aZ<=1000000):
 Calls Tryz.prog 191 #[Y A n c,Y A2 aZ c2] w λe w'=>∃v,e=.returned v/\Row w' w v (l++Pk.aQ b)/\Below w w w':=by
 obtain⟨i0,bM,bL,ae,aa⟩:=info_parts gg;have au:Pk.long aZ<=8:=Pk.fY (by omega);go_enter Tryz.func191,Tryz.ntmps191;go_wp2_with fail;have ho:=ld A n c (9+aZ) l w aL h (by omega);rw[show((9+aZ:Nat):Int)=9+(aZ:Int) by omega]at ho;refine ho.mono ?_;clear ho;rintro e w1 ⟨A1,rfl,h1,aY,-⟩;go_wp2_with fail;refine(nK w A1 n (n+(9+aZ)) aZ l w1 aL (by omega) h1 aY.size (by omega)).mono ?_;rintro e w3 ⟨A3,c3,rfl,a1,ah⟩;have I:=aY.trans ah;have a3:Src w3 A2 (aA b):=by
  rcases h2 with h2 | ⟨bb,off,e1,hc⟩
  ·exact .inl h2
  ·exact .inr ⟨bb,off,e1,λj u hu=>(I.cell (p:=⟨bb,off+j,none⟩) (World.block_lt_of_cell? w _ (hc j u hu))).trans (hc j u hu)⟩
 go_wp2_with (at_builtin;refine ca _ rfl (.tmp 14) (.tmp 15) 97 rfl w 1 5 i0 _ 1 Tryz.underlying97 bM bL ae aa rfl (by omega) _ (n+1+Pk.long aZ) _ rfl a1 A2 aZ c2 (aA b) rfl (by rw[aU,aO,Nat.mul_one]) a3 (dT b) (by unfold maxLen;omega) (by omega) I.size ?_;intro A4 c4 w4 ak av aq);go_ret;have hlen:(l++Pk.aQ b).length=n+1+Pk.long aZ+aZ:=by unfold Pk.aQ;rw[List.length_append,List.length_append,Pk.bJ,aL,aO];omega
 rw[<-cm,<-aO,List.append_assoc]at ak;rw[aO]at ak;exact⟨_,rfl,kU hlen (by unfold Pk.aQ;rw[aO];exact ak),I.trans (bC a1 av (Nat.le_refl _) I.size)⟩
theorem w5(n:Int)(w:World)(h: -9223372036854775808<=n/\n<=9223372036854775807):Calls Tryz.prog 311 #[ag n] w λe w'=>e=.returned (av (Pk.eO n))/\w=w':=by
 by_cases h0:n<0
 ·have e:((Pk.eO n:Nat):Int)=2*(-(n+1))+1:=(by unfold Pk.eO;rw[if_pos h0];omega);rw[e];go_enter Tryz.func311,Tryz.ntmps311;go_wp2;go_ret;exact⟨rfl,rfl⟩
 ·have e:((Pk.eO n:Nat):Int)=2*n:=(by unfold Pk.eO;rw[if_neg h0];omega);rw[e];go_enter Tryz.func311,Tryz.ntmps311;go_wp2;go_ret;exact⟨rfl,rfl⟩
theorem aJ{T:Nat->Prop}{w w':World}{q:Nat}(g:w.grownBy w' (some q))(hT:T q):Goes T w T w':=
 ⟨g.os,g.tape,g.output,g.size,λb a7 aL=>g.block b a7 (λe=>by injection e with e;subst e;exact aL hT),λ_ _ h=>h⟩
theorem aR(w:World)(g i:Nat)(u:Value):w.grownBy (w.setCell ⟨g,i,none⟩ u) (some g):=
 ⟨rfl,rfl,rfl,by simp[World.setCell],λb _ ay=>Below.heap_setCell w ⟨g,i,none⟩ u b (λe=>ay (by rw[e]))⟩
def cv(w:World)(T:Nat->Prop)(q:Nat)(l:List UInt8):Prop:=∃b off c,ai w q 264 #[Y (some ⟨b,off,none⟩) l.length c,.bool false]/\b<w.heap.size/\¬T b/\(∀j u,(aA l)[j]? =some u->w.cell? ⟨b,off+j,none⟩=some u)/\l.length<=c
theorem cv.below{w w':World}{T:Nat->Prop}{q:Nat}{l:List UInt8}(h:cv w T q l)(g:Below w w w'):cv w' T q l:=by
 obtain⟨b,off,c,h1,h2,a1,h4,bi⟩:=h;exact⟨b,off,c,h1.below g h1.lt,Nat.lt_of_lt_of_le h2 g.size,a1,λj u hu=>(g.cell (p:=⟨b,off+j,none⟩) h2).trans (h4 j u hu),bi⟩
theorem xR(A:Option Addr)(n c:Nat):(Program.built Tryz.prog 264 [(0,Y A n c)]).map Array.toList=some [Y A n c,.bool false]:=by kernel_rfl
theorem yf(A:Option Addr)(n c:Nat)(w:World):(Instr.build 264 #[(0,Y A n c)]).run Tryz.prog w=.ok (aE #[Y A n c,.bool false]) w:=by
 obtain⟨cs,h1,h2⟩:=Option.map_eq_some_iff.1 (xR A n c);rw[run_build w 264 _ cs h1];rw[show cs=#[Y A n c,.bool false] from Array.toList_inj.1 h2]
theorem en{P:Program}{ops:Array Oper}{rest:List Oper}{o:Oper}{a:Act}{Q:Exit->Act->World->Prop}{w:World}(ae:o.guard=none)(t:TypeId)(ps:Array (Nat×Operand))(I:o.op=Op.build t ps)(vs:Array (Nat×Value))(hv:ps.map (λ(i,x)=>(i,a.eval x))=vs)(r:Value)
 (aa:(Instr.build t vs).run P w=.ok r w) (h:wpList P ops Q rest (a.put o.dst r) w):wpList P ops Q (o::rest) a w:=by
 refine wpList_plain ae λK ad=>?_;unfold Oper.wp execOp;simp[I,hv,aa,Result.andThen];exact ad _ _ h
theorem ek(A:Option Addr)(n c:Nat)(l:List UInt8)(w:World)(aL:l.length=n)(h:Src w A (aA l))(hm:n<=900000000)(S:Nat->Prop)(hS:mF w S):
 Calls Tryz.prog 128 #[Y A n c] w λe w'=>∃q,e=.returned (aj q)/\w.heap.size<=q/\cv w' (λb=>S b\/b=q) q l/\Below w w w':=by
 go_enter Tryz.func128,Tryz.ntmps128;go_wp2_with fail;have ho:=ld A n c 0 l w aL h (by omega);refine ho.mono ?_;clear ho;rintro e w1 ⟨A1,rfl,h1,aY,rfl⟩;rw[Nat.add_zero]at h1;go_wp2_with (refine en rfl 264 _ rfl #[(0,Y (aj w) n n)] rfl _ (yf _ n n w1) ?_);go_ret;have bA:w.heap.size<w1.heap.size:=by
  rcases h1.2 with⟨hv,_⟩ | ⟨g,cap,cur,hv,_,hh,_⟩
  ·injection hv with hv;cases hv
  ·injection hv with hv;injection hv with hv;injection hv with hv;rw[hv];exact(Array.getElem?_eq_some_iff.1 hh).1
 refine⟨_,rfl,aY.size,⟨w.heap.size,0,n,by rw[aL];exact ai.made _ _ _,by simp;omega,?_,λj u hu=>?_,by omega⟩,aY.alloc aY.size _⟩
 ·rintro(hs | hs)
  ·have:=hS _ hs;omega
  ·omega
 ·have:=h1.cells (g:=w.heap.size) rfl j u hu;rw[Addr.add_lit]at this;rw[World.cell?_alloc_lt _ _ _ (World.block_lt_of_cell? w1 _ this)];exact this
theorem BA(a:Nat)(c:UInt8)(h:a<72057594037927936):bits .or .u64 ((a:Int)*256) (c.toNat:Int)=((a*256+c.toNat:Nat):Int):=by
 have hc:=c.toNat_lt;rw[show((a:Int)*256)=((a*256:Nat):Int) by omega];rw[u64_or_nat _ _ (by omega) (by omega),nat_join 8 _ _ (by omega) (by omega)]
theorem AU(n:Nat):∀l:List UInt8,l.length=n->Pk.val l<256 ^ n:=by
 induction n with
 | zero=>
  intro l hl;obtain rfl:=List.eq_nil_of_length_eq_zero hl;simp[Pk.val]
 | succ n M=>
  intro l hl;have ay:l≠[]:=(by intro h;subst h;simp at hl);have e:=List.dropLast_concat_getLast ay;rw[<-e,Pk.lg,Nat.pow_succ];have:=M l.dropLast (by simp[hl]);have:=(l.getLast ay).toNat_lt;omega
theorem wT{n:Nat}(h:0<Pk.long n):∃b t,Pk.be (Pk.long n) n=b::t/\b.toNat≠0:=by
 have aL:0<n:=by
  rcases Nat.eq_zero_or_pos n with e | e
  ·rw[e,Pk.gu]at h;omega
  ·exact e
 have h1:=Pk.z3 aL;have h2:=Pk.sf n;obtain⟨k,hk⟩:∃k,Pk.long n=k+1:=⟨Pk.long n-1,by omega⟩;rw[hk]at h1 h2 ⊢;refine⟨UInt8.ofNat (n / 256 ^ k),(List.range k).map λi=>UInt8.ofNat (n / 256 ^ (k+1-1- (i+1))),?_,?_⟩
 ·unfold Pk.be;rw[List.range_succ_eq_map];simp[Function.comp_def]
 ·rw[UInt8.toNat_ofNat'];rw[Nat.add_sub_cancel]at h1;have a1:1<=n / 256 ^ k:=(Nat.le_div_iff_mul_le (Nat.pow_pos (by omega))).2 (by simpa using h1);have h4:n / 256 ^ k<256:=Nat.div_lt_of_lt_mul (by rw[<-Nat.pow_succ];exact h2);omega
theorem cM(T:Nat->Prop)(q n:Nat)(rest:List UInt8)(w:World)(hq:T q)(aL:n<18446744073709551616)(h:cv w T q (Pk.az n++rest))(hm:rest.length<=1000000000):
 Calls Tryz.prog 130 #[aj q] w λe w'=>e=.returned (av n)/\cv w' T q rest/\w.grownBy w' (some q):=by
 obtain⟨b,off,c,a7,bV,ai,hcell,db⟩:=h;obtain⟨k,hk⟩:=am (Pk.long n);have au:k<=8:=by rw[hk];exact Pk.fY aL
 have hlen:(Pk.az n++rest).length=1+k+rest.length:=by rw[List.length_append,Pk.bJ,hk]
 rw[hlen]at a7 db;obtain⟨m,aa⟩:∃m,m=rest.length:=⟨_,rfl⟩;rw[<-aa]at a7 db hm;have ba:=a7.cell 0;have c1:=a7.cell 1;have f0:=a7.free 0;simp at ba c1;have M:∀i,i<k->(aA (Pk.az n++rest))[1+i]? =some (.int .u8 (((Pk.be k n)[i]?.getD 0).toNat:Int)):=λi hi=>by
  have ah:i<(Pk.be k n).length:=(by rw[Pk.ht];exact hi);unfold Pk.az;rw[List.cons_append,<-hk,Nat.add_comm 1 i,aA,List.map_cons,List.getElem?_cons_succ,<-aA,cm,List.getElem?_append_left (by rw[aU];exact ah),eo _ ah];simp[ah]
 have d0:w.cell? ⟨b,off,none⟩=some (.int .u8 (k:Int)):=by
  have:=hcell 0 (.int .u8 (k:Int)) (by
   unfold Pk.az;rw[List.cons_append,<-hk,aA,List.map_cons,List.getElem?_cons_zero];show some (Value.int .u8 ((UInt8.ofNat k).toNat:Int))=_;rw[UInt8.toNat_ofNat',show k % 2 ^ 8=k by omega])
  simpa using this
 have J:∀o',o'=(if c=1+k then off else off+(1+k))->∀j u,(aA rest)[j]? =some u->w.cell? ⟨b,o'+j,none⟩=some u:=λo' ho j u hu=>by
  have hj:j<rest.length:=by
   have:=(List.getElem?_eq_some_iff.1 hu).1
   rwa [aU]at this
  rw[ho,if_neg (by omega),Nat.add_assoc];refine hcell _ u ?_;rw[cm,List.getElem?_append_right (by rw[aU,Pk.bJ,<-hk];omega),aU,Pk.bJ,<-hk,show 1+k+j- (1+k)=j by omega];exact hu
 have ad:Hid (∀o',o'=(if c=1+k then off else off+(1+k))->cv (w.setCell (aj q) (Y (some ⟨b,o',none⟩) m (c- (1+k)))) T q rest/\w.grownBy (w.setCell (aj q) (Y (some ⟨b,o',none⟩) m (c- (1+k)))) (some q)):=by
  intro o' ho;have g:=aR w q 0 (Y (some ⟨b,o',none⟩) m (c- (1+k)));refine⟨⟨b,o',c- (1+k),?_,Nat.lt_of_lt_of_le bV g.size,ai,λj u hu=>(aJ g hq).cell (a:=⟨b,o'+j,none⟩) ai (J o' ho j u hu),by omega⟩,g⟩;have:=a7.put 0 (Y (some ⟨b,o',none⟩) m (c- (1+k)));rw[<-aa];simpa using this
 have hv:Pk.val (Pk.be k n)=n:=by rw[hk];exact Pk.Bg _ _ (Pk.sf n)
 have HV:=Lib.hid hv;have HC:Hid (∀i,i<k->w.cell? ⟨b,off+(1+i),none⟩=some (.int .u8 (((Pk.be k n)[i]?.getD 0).toNat:Int))):=λi hi=>hcell (1+i) _ (M i hi);have HF:Hid (0<k->((Pk.be k n)[0]?.getD 0).toNat≠0):=λh0=>by
  obtain⟨x,t,e1,a5⟩:=wT (n:=n) (by omega);rw[<-hk]at e1;rw[e1];exact a5
 have HL:Hid ((Pk.be k n).length=k):=Pk.ht k n;clear hcell M J hlen hv hk aa;obtain⟨bs,bz⟩:=am (Pk.be k n);rw[<-bz]at HV HC HF HL;clear bz;have cP:decide ((8:Int)<(k:Int))=false:=by simp;omega
 have g1:decide ((1:Int)+(k:Int)+(m:Int)<1+(k:Int))=false:=by rw[decide_eq_false_iff_not];omega
 have g0:(((1+k+m:Nat):Int)==0)=false:=by rw[beq_eq_false_iff_ne];omega
 have aw:((1+(k:Int)+(m:Int))==0)=false:=by rw[beq_eq_false_iff_ne];omega
 have aq:¬ (m+1+k=0):=by omega
 have start:∃b1,(0<k->w.cell? ⟨b,off+1,none⟩=some (.int .u8 b1)/\(b1==0)=false):=by
  refine⟨((bs[0]?.getD 0).toNat:Int),λh0=>⟨HC.out 0 h0,?_⟩⟩;rw[beq_eq_false_iff_ne];have:=HF.out h0;omega
 obtain⟨b1,aY⟩:=start;have bH:=Lib.hid aY;clear aY HF;rcases Nat.eq_zero_or_pos k with h0 | h0
 focus
  have gk:decide (0<k)=false:=by rw[decide_eq_false_iff_not];omega
 rotate_left
 focus
  obtain⟨d1,e1⟩:=bH.out h0;have ae:(0:Int)<(k:Int):=by omega
 all_goals
  clear bH h0;go_enter Tryz.func130,Tryz.ntmps130;go_wp2;go_step3;go_wp2
  go_loop [3,51] (λv_ i_=>∃i:Nat,i_=I af i/\i<=k/\v_=I ak (Pk.val (bs.take i))) (λ_ i=>k- (intOf i).toNat)
  case atStart=>exact⟨0,rfl,by omega,rfl⟩
  case round=>
   obtain⟨i,rfl,hi,rfl⟩:=hrel;by_cases bA:i<k
   ·have bE:(i:Int)<(k:Int):=(by omega);have di:=HC.out i bA;have bu:i<bs.length:=(by have:=HL.out;omega);have cZ:Pk.val (bs.take i)<72057594037927936:=by
     have h1:=AU i (bs.take i) (by rw[List.length_take];omega);have h2:256 ^ i<=256 ^ 7:=Nat.pow_le_pow_right (by omega) (by omega);omega
    have ag:=BA (Pk.val (bs.take i)) (bs[i]?.getD 0) cZ;have HN:Hid (Pk.val (bs.take i)*256+(bs[i]?.getD 0).toNat=Pk.val (bs.take (i+1))):=by
     show Pk.val (bs.take i)*256+(bs[i]?.getD 0).toNat=Pk.val (bs.take (i+1));rw[List.take_succ_eq_append_getElem bu,Pk.lg];simp[bu]
    obtain⟨v,hv⟩:=am (Pk.val (bs.take i));obtain⟨x,hx⟩:=am ((bs[i]?.getD 0).toNat);have ao:x<256:=(by rw[hx];exact(bs[i]?.getD 0).toNat_lt);rw[<-hv]at cZ ag HN ⊢;rw[<-hx]at di ag HN;clear hv hx;have ar:1+(i:Int)<1+(k:Int)+(m:Int):=(by omega);go_wp2
    go_round
    case rel=>exact⟨i+1,by go_num,by omega,congrArg (Value.int .u64) (by have:=HN.out;omega)⟩
    case measure=>simp[intOf];omega
   ·obtain rfl:i=k:=(by omega);have hval:Pk.val (bs.take i)=n:=(by rw[List.take_of_length_le (by have:=HL.out;omega)];exact HV.out);rw[hval];have hle:(1:Int)+(i:Int)<=1+(i:Int)+(m:Int):=(by omega);clear hval bA;go_wp2
    all_goals
     go_ret;exact⟨rfl,by simpa[*]using(ad.out _ rfl).1,by simpa[*]using(ad.out _ rfl).2⟩
theorem sC(n:Nat)(w:World)(h:n<18446744073709551616):Calls Tryz.prog 292 #[av n] w λe w'=>e=.returned (ag (Pk.fA n))/\w=w':=by
 by_cases h0:n % 2=1
 ·have e:Pk.fA n= -((n:Int) / 2)-1:=(by unfold Pk.fA;rw[if_pos h0];omega);have aB:((n:Int) % 2==1)=true:=(by rw[beq_iff_eq];omega);rw[e];clear h0;go_enter Tryz.func292,Tryz.ntmps292;go_wp2;go_ret;exact⟨rfl,rfl⟩
 ·have e:Pk.fA n=(n:Int) / 2:=(by unfold Pk.fA;rw[if_neg h0];omega);have aB:((n:Int) % 2==1)=false:=(by rw[beq_eq_false_iff_ne];omega);rw[e];clear h0;go_enter Tryz.func292,Tryz.ntmps292;go_wp2;go_ret;exact⟨rfl,rfl⟩
theorem eE(T:Nat->Prop)(q:Nat)(w:World)(h:cv w T q []):Calls Tryz.prog 134 #[aj q] w λe w'=>e=.returned (.bool true)/\w=w':=by
 obtain⟨b,off,c,a7,_⟩:=h;have ba:=a7.cell 0;have c1:=a7.cell 1;simp at ba c1;go_enter Tryz.func134,Tryz.ntmps134;go_wp2;go_ret;exact⟨rfl,rfl⟩
abbrev cC(q:Nat):Nat->Prop:=λb=>b=q
theorem Goes.wider{S S' T:Nat->Prop}{w w':World}(h:Goes S w S' w')(hs:∀b,S b->T b):Goes T w T w':=⟨h.os,h.tape,h.output,h.size,λb a7 aL=>h.aI b a7 (λe=>aL (hs b e)),λ_ _ h=>h⟩
theorem eZ(T:Nat->Prop)(q most:Nat)(b rest:List UInt8)(w:World)(hq:T q)(a7:b.length<=most)(az:most<=1000000)(h:cv w T q (Pk.aQ b++rest))(hm:rest.length<=900000000):
 Calls Tryz.prog 132 #[aj q,ag most] w λe w'=>∃v,e=.returned v/\Row w' w v b/\cv w' T q rest/\Goes (cC q) w (cC q) w':=by
 obtain⟨n,aL⟩:=am b.length;have ae:=cM T q n (b++rest) w hq (by omega) (by rw[aL,<-List.append_assoc];exact h) (by rw[List.length_append];omega);have c5:q<w.heap.size:=by
  obtain⟨_,_,_,k,_⟩:=h;exact k.lt
 obtain⟨m,aa⟩:∃m,m=rest.length:=⟨_,rfl⟩;have HN:=di aL aa;have ak:n<=most:=by omega
 have av:m<=900000000:=by omega
 clear aL aa h a7 hm;have gm:decide ((most:Int)<0)=false:=by simp
 go_enter Tryz.func132,Tryz.ntmps132;go_wp2;go_step3;go_wp2_with fail;refine ae.mono ?_;rintro e w1 ⟨rfl,⟨lb,lo,c,au,ai,af,hcell,db⟩,g1⟩;have hlen:(b++rest).length=n+m:=by rw[List.length_append,HN.out.1,HN.out.2]
 rw[hlen]at au db;have ba:=au.cell 0;have c1:=au.cell 1;simp at ba c1;have g2:decide ((most:Int)<(n:Int))=false:=by rw[decide_eq_false_iff_not];omega
 have g3:decide ((n:Int)+(m:Int)<(n:Int))=false:=by rw[decide_eq_false_iff_not];omega
 have ah:decide (((n+m:Nat):Int)<(n:Int))=false:=by rw[decide_eq_false_iff_not];omega
 have e1:(most:Int) % 18446744073709551616=most:=by omega
 have a5:((n:Int)+(m:Int)) % 18446744073709551616=n+m:=by omega
 clear ae;go_wp2_with fail;have ho:=ld (some ⟨lb,lo,none⟩) n c 0 b w1 HN.out.1.symm (.inr ⟨lb,lo,rfl,λj u hu=>hcell j u (by
  have hj:=(List.getElem?_eq_some_iff.1 hu).1;rw[cm,List.getElem?_append_left hj];exact hu)⟩) (by omega)
 refine ho.mono ?_;clear ho;rintro e w2 ⟨A2,rfl,h2,aG,-⟩;rw[Nat.add_zero]at h2;have I:=au.below aG au.lt;have d0:=I.cell 0;have d1:=I.cell 1;have f0:=I.free 0;simp at d0 d1;have aE:=au.lt;have J:∀o',o'=(if c=n then lo else lo+n)->∀j u,(aA rest)[j]? =some u->w2.cell? ⟨lb,o'+j,none⟩=some u:=λo' ho j u hu=>by
  have hj:j<m:=by
   have:=(List.getElem?_eq_some_iff.1 hu).1;rw[aU,<-HN.out.2]at this;exact this
  rw[ho,if_neg (by omega),Nat.add_assoc];refine(aG.cell (p:=⟨lb,lo+(n+j),none⟩) ai).trans (hcell _ u ?_);rw[cm,List.getElem?_append_right (by rw[aU,<-HN.out.1];omega),aU,<-HN.out.1,show n+j-n=j by omega];exact hu
 have M:Goes (cC q) w (cC q) w2:=(aJ (T:=cC q) g1 rfl).trans (.ao aG _);have ad:Hid (∀o',o'=(if c=n then lo else lo+n)->cv (w2.setCell (aj q) (Y (some ⟨lb,o',none⟩) m (c-n))) T q rest/\Goes (cC q) w (cC q) (w2.setCell (aj q) (Y (some ⟨lb,o',none⟩) m (c-n)))/\Row (w2.setCell (aj q) (Y (some ⟨lb,o',none⟩) m (c-n))) w (Y A2 n n) b):=by
  intro o' ho;have g:=aR w2 q 0 (Y (some ⟨lb,o',none⟩) m (c-n));refine⟨⟨lb,o',c-n,?_,Nat.lt_of_lt_of_le (Nat.lt_of_lt_of_le ai aG.size) g.size,af,λj u hu=>(aJ g hq).cell (a:=⟨lb,o'+j,none⟩) af (J o' ho j u hu),by rw[<-HN.out.2];omega⟩,M.trans (aJ (T:=cC q) g rfl),?_⟩
  ·have:=I.put 0 (Y (some ⟨lb,o',none⟩) m (c-n));rw[<-HN.out.2];simpa using this
  ·refine kU HN.out.1.symm (dt (dU h2 (row:=some q) (λk hk e=>?_) g) g1.size);injection hk with hk;subst hk;have:=(h2.lt q e).1;omega
 clear hcell J M;go_wp2_with fail
 all_goals
  go_ret;exact⟨_,rfl,by simpa[*]using(ad.out _ rfl).2.2,by simpa[*]using(ad.out _ rfl).1,by simpa[*]using(ad.out _ rfl).2.1⟩
end Go.Proofs.YtgblliofomgggaaGreat
