import Derived.WalkKit
import Derived.WalkLawsBesides
import Derived.WalkSpells
import Derived.Lib.Hide
import Derived.Maps.AppendAt
import Derived.Deep.Draws
import Derived.Laws.AppendOwnNone
import Derived.ProofKit
import Derived.OpenShut
import Derived.ShutString
import Derived.ChangeOld
import Derived.Deep.Slices
import Derived.Test.YtgblliofomgggaaGreatRows
import Derived.Deep.RegionLaw
import Derived.Deep.QuietTactic
import Derived.BigQuiet
import Derived.ScopeJumps
import Derived.Test.YtgblliofomgggaaGreatM01
namespace Go.Proofs.YtgblliofomgggaaGreat
set_option maxRecDepth 100000
set_option maxHeartbeats 4000000
open Go.RowKit a7
open Go.IntKind renaming i64 -> af,u64 -> ak
open Go.Value renaming int -> I,slice -> Y,pointer -> aL
namespace Old
open Go.RowKit Go.ChangeShapes Go.WideShapes
def a6(w:World)(B:Nat)(A:Option Addr)(xs:List Value):Prop:=
 xs=[]\/∃b off,A=some ⟨b,off,none⟩/\b<B/\∀j u,xs[j]? =some u->w.cell? ⟨b,off+j,none⟩=some u
section
variable {w w':World}{B B':Nat}{A:Option Addr}{xs:List Value}
theorem a6.nil(w:World)(B:Nat)(A:Option Addr):a6 w B A []:=.inl rfl
theorem a6.open_(h:a6 w B A xs)(hx:0<xs.length):∃b off,A=some ⟨b,off,none⟩/\b<B/\∀j u,xs[j]? =some u->w.cell? ⟨b,off+j,none⟩=some u:=by
 rcases h with rfl | h
 ·simp at hx
 ·exact h
theorem a6.aI(h:a6 w B A xs)(hk:∀p:Addr,p.block<B->w'.cell? p=w.cell? p):a6 w' B A xs:=by
 rcases h with h | ⟨b,off,hA,a7,hc⟩
 ·exact .inl h
 ·exact .inr ⟨b,off,hA,a7,λj u hu=>(hk _ a7).trans (hc j u hu)⟩
theorem a6.more(h:a6 w B A xs)(hB:B<=B'):a6 w B' A xs:=by
 rcases h with h | ⟨b,off,hA,a7,hc⟩
 ·exact .inl h
 ·exact .inr ⟨b,off,hA,by omega,hc⟩
theorem a6.below(h:a6 w B A xs)(a7:Below B w w'):a6 w' B A xs:=h.aI λ_ hp=>a7.cell hp
theorem a6.drew(h:a6 w B A xs):a6 w.drew B A xs:=h
theorem a6.drewN(h:a6 w B A xs)(k:Nat):a6 (w.drewN k) B A xs:=h
theorem a6.alloc(h:a6 w B A xs)(hB:B<=w.heap.size)(o:Obj):a6 (w.alloc o) B A xs:=h.below ((Below.refl B w).alloc hB o)
theorem a6.grown(h:a6 w B A xs){row:Option Nat}(hg:w.grownBy w' row)(hB:B<=w.heap.size)(hr:∀g,row=some g->B<=g):a6 w' B A xs:=
 h.below ((Below.refl B w).grown hg hB hr)
theorem a6.cut(h:a6 w B A xs){k n:Nat}(hk:k+n<=xs.length)(A':Option Addr)(hA:0<n->A'=A.map (·.add k)):a6 w B A' ((xs.drop k).take n):=by
 by_cases aL:n=0
 ·subst aL;left;simp
 ·obtain⟨b,off,rfl,a7,hc⟩:=h.open_ (by omega);right;refine⟨b,off+k,?_,a7,λj u hu=>?_⟩
  ·rw[hA (by omega)];unfold Addr.add;by_cases h0:k=0<;>simp[h0]
  ·rw[List.getElem?_take]at hu;split at hu
   ·rw[List.getElem?_drop]at hu;rw[Nat.add_assoc];exact hc _ u hu
   ·cases hu
theorem a6.eu{base size n c:Nat}{e:TypeId}(h:w.ownsRow base e size (Y A n c) n xs):a6 w w A xs:=by
 by_cases hx:xs=[]
 ·exact .inl hx
 ·rcases h.2 with⟨hv,aL⟩ | ⟨g,cap,cur,hv,hg,hh,aA,ao,hcs,M⟩
  ·have:=h.1;subst aL;simp at this;exact absurd this hx
  ·right;have hA:A=some ⟨g,0,none⟩:=(by injection hv);refine⟨g,0,hA,(Array.getElem?_eq_some_iff.1 hh).1,λj u hu=>?_⟩;have:=h.cells (g:=g) (by rw[hA];rfl) j u hu
   rwa [Addr.add_lit]at this
end
def aA(l:List UInt8):List Value:=l.map λc=>.int .u8 (c.toNat:Int)
theorem aU(l:List UInt8):(aA l).length=l.length:=by simp[aA]
theorem cm(a b:List UInt8):aA (a++b)=aA a++aA b:=by simp[aA]
theorem lP(l:List UInt8)(k n:Nat):((aA l).drop k).take n=aA ((l.drop k).take n):=by simp[aA,List.map_take,List.map_drop]
theorem eo(l:List UInt8){k:Nat}(h:k<l.length):(aA l)[k]? =some (.int .u8 (l[k].toNat:Int)):=by simp[aA,h]
theorem dT(l:List UInt8):∀u∈aA l,u.oneCell'=true:=by
 intro u hu;simp only[aA,List.mem_map]at hu;obtain⟨c,_,rfl⟩:=hu;rfl
abbrev Bytes(w:World)(B:Nat)(A:Option Addr)(l:List UInt8):Prop:=a6 w B A (aA l)
theorem a6.byte{w:World}{B:Nat}{A:Option Addr}{l:List UInt8}(h:Bytes w B A l){k:Nat}(hk:k<l.length):
 ∃b off,A=some ⟨b,off,none⟩/\b<B/\w.cell? ⟨b,off+k,none⟩=some (.int .u8 (l[k].toNat:Int)):=by
 obtain⟨b,off,hA,a7,hc⟩:=h.open_ (by rw[aU];omega);exact⟨b,off,hA,a7,hc k _ (eo l hk)⟩
section
variable {P:Program}
theorem jH(w:World)(src dst e:TypeId){B:Nat}{A:Option Addr}{l:List UInt8}(h:Bytes w B A l)(hs:P.underlying src=some (.slice e))(he:P.underlying e=some (.int .u8))(hd:P.underlying dst=some .string)(n c:Nat)(aL:n=l.length):
 (convert src dst (Y A n c)).run P w=.ok (.string ⟨l.toArray⟩) w:=by
 subst aL;by_cases h0:l=[]
 ·subst h0;cases A with
  | none=>
   exact run_convert_bytes_nil (P:=P) w src e hs he 0 c dst hd
  | some a=>
   exact run_convert_bytes_back (P:=P) w src dst e a c [] hs he hd (λj hj=>by simp at hj)
 ·obtain⟨b,off,rfl,a7,hc⟩:=h.open_ (by rw[aU];exact List.length_pos_iff.2 h0);refine run_convert_bytes_back (P:=P) w src dst e _ c l hs he hd (λj hj=>?_);rw[Addr.add_lit];exact hc j _ (eo l hj)
end
theorem eH{w:World}{base e n:Nat}{v:Value}{xs:List Value}(h:w.ownsRow base e 1 v n xs):∃A c,v=Y A n c:=by
 rcases h.2 with⟨rfl,rfl⟩ | ⟨g,cap,cur,rfl,_⟩
 ·exact⟨_,_,rfl⟩
 ·exact⟨_,_,rfl⟩
section
variable {P:Program}(w:World)
theorem dw(base:Nat)(t ty e:TypeId)(i:TypeInfo)(ht:P.underlying t=some (.slice e))(hi:P.info? e=some i)(v:Value)(n:Nat)(xs:List Value)(J:w.ownsRow base e 1 v n xs)(c:Nat):
 (Builtin.append_ #[t,t] ty #[v,Y none 0 c]).run P w=.ok v w:=by
 rcases J.2 with⟨rfl,rfl⟩ | ⟨g,cap,cur,rfl,_,_,aA,_⟩
 ·simp[Builtin.append_,run_underlying ht,sizeOf,typeInfo,hi,Builtin.lenOf,Builtin.firstCells]
 ·simp[Builtin.append_,run_underlying ht,sizeOf,typeInfo,hi,Builtin.lenOf,Builtin.firstCells,aA,storeCells]
theorem eg(base:Nat)(t ty e:TypeId)(i:TypeInfo)(z:Value)(bytes:Nat)(ht:P.underlying t=some (.slice e))(hi:P.info? e=some i)(hz:i.zero=some z)
 (M:i.size=1) (bR:i.bytes=bytes) (bB:z.cells.size=1)
 (v:Value) (n:Nat) (xs:List Value) (J:w.ownsRow base e 1 v n xs)
 (B:Nat) (A:Option Addr) (c:Nat) (news:List Value) (hr:a6 w B A news) (h1:∀u∈news,u.oneCell'=true)
 (af:n+news.length<=maxLen) (I:(n+news.length)*bytes<=140737488355328) (av:base<=w.heap.size):
 ∃A' c' w',(Builtin.append_ #[t,t] ty #[v,Y A news.length c]).run P w=.ok (Y A' (n+news.length) c') w'/\w'.ownsRow base e 1 (Y A' (n+news.length) c') (n+news.length) (xs++news)/\w.grownBy w' v.ownBlock/\
  ((Value.slice A' (n+news.length) c').ownBlock=v.ownBlock\/(Value.slice A' (n+news.length) c').ownBlock=some w.heap.size):=by
 suffices hh:∃v' w',(Builtin.append_ #[t,t] ty #[v,Y A news.length c]).run P w=.ok v' w'/\w'.ownsRow base e 1 v' (n+news.length) (xs++news)/\w.grownBy w' v.ownBlock/\
  (v'.ownBlock=v.ownBlock\/v'.ownBlock=some w.heap.size) by
  obtain⟨v',w',aa,h2,a1,h4⟩:=hh;obtain⟨A',c',rfl⟩:=eH h2;exact⟨A',c',w',aa,h2,a1,h4⟩
 by_cases aL:news=[]
 ·subst aL;cases A with
  | none=>exact⟨v,w,dw w base t ty e i ht hi v n xs J c,by simpa using J,World.grownBy.refl w _,.inl rfl⟩
  | some a=>
   obtain⟨v',w',aa,h2,a1,_,bi⟩:=run_append_own_at (P:=P) w base t ty e i z 1 bytes ht hi hz M bR bB (by omega) v n xs J a 0 c [] rfl (λj u hu=>by simp at hu) h1 af I av;exact⟨v',w',aa,h2,a1,bi⟩
 ·obtain⟨b,off,rfl,a7,hc⟩:=hr.open_ (List.length_pos_iff.2 aL);obtain⟨v',w',aa,h2,a1,_,bi⟩:=run_append_own_at (P:=P) w base t ty e i z 1 bytes ht hi hz M bR bB (by omega) v n xs J ⟨b,off,none⟩ news.length c news (by omega)
   (λj u hu=>by rw[Addr.add_lit];exact hc j u hu) h1 af I av
  exact⟨v',w',aa,h2,a1,bi⟩
theorem dg{ops:Array Oper}{rest:List Oper}{o:Oper}{a:Act}{Q:Exit->Act->World->Prop}(ae:o.guard=none)(s x:Operand)(t:TypeId)
 (ho:o.op=.call {callee:=.builtin .append,args:=#[s,x],argTypes:=#[t,t]})
 (base:Nat) (e:TypeId) (i:TypeInfo) (z:Value) (bytes:Nat) (ht:P.underlying t=some (.slice e)) (hi:P.info? e=some i) (hz:i.zero=some z)
 (M:i.size=1) (bR:i.bytes=bytes) (bB:z.cells.size=1)
 (v:Value) (n:Nat) (xs:List Value) (hs:a.eval s=v) (J:w.ownsRow base e 1 v n xs)
 (B:Nat) (A:Option Addr) (m c:Nat) (news:List Value) (hx:a.eval x=Y A m c) (hm:news.length=m) (hr:a6 w B A news) (h1:∀u∈news,u.oneCell'=true)
 (af:n+m<=maxLen) (I:(n+m)*bytes<=140737488355328) (av:base<=w.heap.size)
 (h:∀A' c' w',w'.ownsRow base e 1 (Y A' (n+m) c') (n+m) (xs++news)->w.grownBy w' v.ownBlock->((Value.slice A' (n+m) c').ownBlock=v.ownBlock\/(Value.slice A' (n+m) c').ownBlock=some w.heap.size)->wpList P ops Q rest (a.put o.dst (Y A' (n+m) c')) w'):wpList P ops Q (o::rest) a w:=by
 subst hm;refine wpList_plain ae λK ad=>?_;obtain⟨A',c',w',aa,h2,a1,h4⟩:=eg (P:=P) w base t o.type e i z bytes ht hi hz M bR bB v n xs J B A c news hr h1 af I av;unfold Oper.wp execOp;simp only[ho,resolve,invoke,builtin,Sem.run_bind,Sem.run_pure,Result.andThen_ok,List.map_toArray,List.map_cons,List.map_nil,hs,hx,aa];exact ad _ _ (h A' c' w' h2 a1 h4)
theorem eP{ops:Array Oper}{o:Oper}{a:Act}{K:Act->World->Prop}{Q:Exit->Act->World->Prop}{E:Prop}(ae:o.guard=none)(s x:Operand)(t:TypeId)
 (ho:o.op=.call {callee:=.builtin .append,args:=#[s,x],argTypes:=#[t,t]})
 (base:Nat) (e:TypeId) (i:TypeInfo) (z:Value) (bytes:Nat) (ht:P.underlying t=some (.slice e)) (hi:P.info? e=some i) (hz:i.zero=some z)
 (M:i.size=1) (bR:i.bytes=bytes) (bB:z.cells.size=1)
 (v:Value) (n:Nat) (xs:List Value) (hs:a.eval s=v) (J:w.ownsRow base e 1 v n xs)
 (B:Nat) (A:Option Addr) (m c:Nat) (news:List Value) (hx:a.eval x=Y A m c) (hm:news.length=m) (hr:a6 w B A news) (h1:∀u∈news,u.oneCell'=true)
 (af:n+m<=maxLen) (I:(n+m)*bytes<=140737488355328) (av:base<=w.heap.size)
 (h:∀A' c' w',w'.ownsRow base e 1 (Y A' (n+m) c') (n+m) (xs++news)->w.grownBy w' v.ownBlock->((Value.slice A' (n+m) c').ownBlock=v.ownBlock\/(Value.slice A' (n+m) c').ownBlock=some w.heap.size)->K (a.put o.dst (Y A' (n+m) c')) w'):
 if Region.wanted o (yielded ops a.tmps)=true then Oper.wp P o a w K Q else E:=by
 have hw:Region.wanted o (yielded ops a.tmps)=true:=by simp[Region.wanted,ae]
 rw[if_pos hw];subst hm;obtain⟨A',c',w',aa,h2,a1,h4⟩:=eg (P:=P) w base t o.type e i z bytes ht hi hz M bR bB v n xs J B A c news hr h1 af I av;unfold Oper.wp execOp;simp only[ho,resolve,invoke,builtin,Sem.run_bind,Sem.run_pure,Result.andThen_ok,List.map_toArray,List.map_cons,List.map_nil,hs,hx,aa];exact h A' c' w' h2 a1 h4
end
theorem a6.one(w:World)(t:TypeId)(u:Value):a6 (w.alloc (.cells #[u] t)) (w.heap.size+1) (aj w) [u]:=by
 refine .inr ⟨_,_,rfl,by omega,λj v hj=>?_⟩
 match j,hj with
 | 0,hj=>
  have h0:=cell_of_row (w.alloc (.cells #[u] t)) w 0 #[u] t (0,0) (heap_alloc_new w _);have hu:u=v:=(by simpa using hj);subst hu;simp
theorem bC{w w1:World}{base e n B:Nat}{v:Value}{xs:List Value}(J:w.ownsRow base e 1 v n xs)(hg:w.grownBy w1 v.ownBlock)(hB:B<=base)(hs:base<=w.heap.size):Below B w w1:=
 (Below.refl B w).grown hg (by omega) (λk hk=>by have:=(J.lt k hk).1;omega)
def ai(w:World)(g:Nat)(t:TypeId)(cs:Array Value):Prop:=w.heap[g]? =some (.cells cs t (0,0))
section
variable {w w':World}{g:Nat}{t:TypeId}{cs:Array Value}
theorem ai.lt(h:ai w g t cs):g<w.heap.size:=(Array.getElem?_eq_some_iff.1 h).1
theorem ai.cell(h:ai w g t cs)(i:Nat):w.cell? ⟨g,i,none⟩=cs[i]? :=cell_of_row w g i cs t (0,0) h
theorem ai.c3(h:ai w g t cs):w.cell? (aj g)=cs[0]?/\w.cell? ⟨g,1,none⟩=cs[1]?/\w.cell? ⟨g,2,none⟩=cs[2]? :=⟨h.cell 0,h.cell 1,h.cell 2⟩
theorem ai.c4(h:ai w g t cs):w.cell? (aj g)=cs[0]?/\w.cell? ⟨g,1,none⟩=cs[1]?/\w.cell? ⟨g,2,none⟩=cs[2]?/\w.cell? ⟨g,3,none⟩=cs[3]? :=⟨h.cell 0,h.cell 1,h.cell 2,h.cell 3⟩
theorem ai.c8(h:ai w g t cs):w.cell? (aj g)=cs[0]?/\w.cell? ⟨g,1,none⟩=cs[1]?/\w.cell? ⟨g,2,none⟩=cs[2]?/\w.cell? ⟨g,3,none⟩=cs[3]?/\w.cell? ⟨g,4,none⟩=cs[4]?/\w.cell? ⟨g,5,none⟩=cs[5]?/\w.cell? ⟨g,6,none⟩=cs[6]?/\w.cell? ⟨g,7,none⟩=cs[7]? :=⟨h.cell 0,h.cell 1,h.cell 2,h.cell 3,h.cell 4,h.cell 5,h.cell 6,h.cell 7⟩
theorem ai.c9(h:ai w g t cs):w.cell? (aj g)=cs[0]?/\w.cell? ⟨g,1,none⟩=cs[1]?/\w.cell? ⟨g,2,none⟩=cs[2]?/\w.cell? ⟨g,3,none⟩=cs[3]?/\w.cell? ⟨g,4,none⟩=cs[4]?/\w.cell? ⟨g,5,none⟩=cs[5]?/\w.cell? ⟨g,6,none⟩=cs[6]?/\w.cell? ⟨g,7,none⟩=cs[7]?/\w.cell? ⟨g,8,none⟩=cs[8]? :=⟨h.cell 0,h.cell 1,h.cell 2,h.cell 3,h.cell 4,h.cell 5,h.cell 6,h.cell 7,h.cell 8⟩
theorem ai.yH(h:ai w g t cs):w.cell? (aj g)=cs[0]?/\w.cell? ⟨g,1,none⟩=cs[1]?/\w.cell? ⟨g,2,none⟩=cs[2]?/\w.cell? ⟨g,3,none⟩=cs[3]?/\w.cell? ⟨g,4,none⟩=cs[4]?/\w.cell? ⟨g,5,none⟩=cs[5]?/\w.cell? ⟨g,6,none⟩=cs[6]?/\w.cell? ⟨g,7,none⟩=cs[7]?/\w.cell? ⟨g,8,none⟩=cs[8]?/\w.cell? ⟨g,9,none⟩=cs[9]?/\w.cell? ⟨g,10,none⟩=cs[10]?/\w.cell? ⟨g,11,none⟩=cs[11]?/\w.cell? ⟨g,12,none⟩=cs[12]? :=⟨h.cell 0,h.cell 1,h.cell 2,h.cell 3,h.cell 4,h.cell 5,h.cell 6,h.cell 7,h.cell 8,h.cell 9,h.cell 10,h.cell 11,h.cell 12⟩
theorem ai.free(h:ai w g t cs)(i:Nat):w.frozen? ⟨g,i,none⟩=false:=by
 unfold ai at h;simp[World.frozen?,h]
theorem ai.made(w:World)(t:TypeId)(cs:Array Value):ai (w.alloc (.cells cs t)) w t cs:=heap_alloc_new w _
theorem ai.below{B:Nat}(h:ai w g t cs)(a7:Below B w w')(hg:g<B):ai w' g t cs:=(a7.block g hg).trans h
theorem ai.grown{row:Option Nat}(h:ai w g t cs)(a7:w.grownBy w' row)(hg:some g≠row):ai w' g t cs:=(a7.block g h.lt hg).trans h
theorem ai.alloc(h:ai w g t cs)(o:Obj):ai (w.alloc o) g t cs:=(Below.heap_alloc w o g h.lt).trans h
theorem ai.put(h:ai w g t cs)(i:Nat)(u:Value):ai (w.setCell ⟨g,i,none⟩ u) g t (cs.setIfInBounds i u):=by
 unfold ai at h ⊢;simp[World.setCell,Array.getElem?_modify,h]
theorem ai.dA(h:ai w g t cs){p:Addr}(hp:g≠p.block)(u:Value):ai (w.setCell p u) g t cs:=(Below.heap_setCell w p u g hp).trans h
theorem ai.cx{base e n:Nat}{v:Value}{xs:List Value}(h:ai w g t cs)(J:w.ownsRow base e 1 v n xs)(ay:e≠t):some g≠v.ownBlock:=by
 rcases J.2 with⟨rfl,_⟩ | ⟨g',cap,cur,rfl,_,hh,_⟩
 ·simp[Value.ownBlock]
 ·intro he;have hg:g=g':=(by simpa[Value.ownBlock]using he);subst hg;unfold ai at h;rw[h]at hh;injection hh with hh;injection hh with _ ht;exact ay ht.symm
theorem dU{base e n:Nat}{v:Value}{xs:List Value}(h:w.ownsRow base e 1 v n xs){p:Addr}(hp:some p.block≠v.ownBlock)(u:Value):(w.setCell p u).ownsRow base e 1 v n xs:=by
 refine⟨h.1,?_⟩;rcases h.2 with aL | ⟨g,cap,cur,hv,a7,hg,rest⟩
 ·exact .inl aL
 ·refine .inr ⟨g,cap,cur,hv,a7,?_,rest⟩;rw[Below.heap_setCell _ _ _ _ (λe=>hp (by rw[hv,<-e];rfl))];exact hg
end
section
variable {w w':World}{base base' e e' n m:Nat}{v u:Value}{xs ys:List Value}
theorem aT(h:w.ownsRow base e 1 v n xs)(a7:Below w w w'):w'.ownsRow base e 1 v n xs:=by
 refine⟨h.1,?_⟩;rcases h.2 with aL | ⟨g,cap,cur,hv,hg,hh,rest⟩
 ·exact .inl aL
 ·exact .inr ⟨g,cap,cur,hv,hg,(a7.block g (Array.getElem?_eq_some_iff.1 hh).1).trans hh,rest⟩
theorem dt(h:w.ownsRow base e 1 v n xs)(a7:base'<=base):w.ownsRow base' e 1 v n xs:=by
 refine⟨h.1,?_⟩;rcases h.2 with aL | ⟨g,cap,cur,hv,hg,rest⟩
 ·exact .inl aL
 ·exact .inr ⟨g,cap,cur,hv,by omega,rest⟩
theorem qJ(h:w.ownsRow base e 1 v n xs)(k:w.ownsRow base' e' 1 u m ys)(ay:e≠e'):v.ownBlock=none\/v.ownBlock≠u.ownBlock:=by
 rcases h.2 with⟨rfl,_⟩ | ⟨g,cap,cur,rfl,hg,hh,_⟩
 ·exact .inl rfl
 ·right;exact(ai.cx (cs:=cur) hh k (Ne.symm ay))
end
theorem dc{B n:Nat}{a w:World}(h:Below B a w):Below B a (w.drewN n):=⟨h.os,h.tape,h.output,h.size,h.block⟩
theorem fR{w:World}{base e n c:Nat}{A:Option Addr}{xs:List Value}(h:w.ownsRow base e 1 (Y A n c) n xs):n<=c:=by
 rcases h.2 with⟨hv,rfl⟩ | ⟨g,cap,cur,hv,_,_,aA,_⟩
 ·exact Nat.zero_le _
 ·injection hv with _ _ hc;omega
theorem ff{w w':World}{row:Option Nat}(h:w.drew.grownBy w' row):w.grownBy w' row:=⟨h.os,h.tape,h.output,h.size,h.block⟩
section
variable {H:Type}{enc:TypeId×Value->H}{P:Program}{w:World}{base:Nat}{held:Bool}
end
end Old
namespace Fr
def bit(n:Nat):Nat:=if n % 2=1 then(n / 2) ^^^ 3945912366 else n / 2
def bits:Nat->Nat->Nat
 | 0,n=>n
 | k+1,n=>bits k (bit n)
def q5(n:Nat)(c:UInt8):Nat:=bits 8 (n ^^^ c.toNat)
def run(n:Nat)(l:List UInt8):Nat:=l.foldl q5 n
def sum(l:List UInt8):Nat:=4294967295-run 4294967295 l
theorem p5{n:Nat}(h:n<4294967296):bit n<4294967296:=by
 unfold bit;split
 ·exact Nat.xor_lt_two_pow (n:=32) (by omega) (by omega)
 ·omega
theorem zO(k:Nat):∀ {n:Nat},n<4294967296->bits k n<4294967296:=by
 induction k with
 | zero=>intro n h;exact h
 | succ k M=>intro n h;exact M (p5 h)
theorem jL{n:Nat}(h:n<4294967296)(c:UInt8):n ^^^ c.toNat<4294967296:=
 Nat.xor_lt_two_pow (n:=32) h (by have:=c.toNat_lt;omega)
theorem kN{n:Nat}(h:n<4294967296)(c:UInt8):q5 n c<4294967296:=zO 8 (jL h c)
theorem mO(l:List UInt8):∀ {n:Nat},n<4294967296->run n l<4294967296:=by
 induction l with
 | nil=>intro n h;exact h
 | cons c l M=>intro n h;exact M (kN h c)
theorem qP(l:List UInt8):sum l<4294967296:=by unfold sum;omega
theorem nO{a b c:Nat}(h:a ^^^ c=b ^^^ c):a=b:=by
 have h1:(a ^^^ c) ^^^ c=(b ^^^ c) ^^^ c:=by rw[h]
 simpa[Nat.xor_assoc]using h1
theorem wE{a b c:Nat}(h:c ^^^ a=c ^^^ b):a=b:=by
 rw[Nat.xor_comm c a,Nat.xor_comm c b]at h;exact nO h
theorem mC{n:Nat}(h:n<4294967296):(bit n).testBit 31=decide (n % 2=1):=by
 have hs:(n / 2).testBit 31=false:=Nat.testBit_lt_two_pow (by omega);unfold bit;split
 ·rename_i h1;rw[Nat.testBit_xor,hs];simp[h1];decide
 ·rename_i h1;rw[hs];simp[h1]
theorem zL{n m:Nat}(aL:n<4294967296)(hm:m<4294967296)(h:bit n=bit m):n=m:=by
 have ht:decide (n % 2=1)=decide (m % 2=1):=by rw[<-mC aL,<-mC hm,h]
 have hp:n % 2=m % 2:=by
  by_cases h1:n % 2=1
  ·simp[h1]at ht;omega
  ·simp[h1]at ht;omega
 unfold bit at h;by_cases h1:n % 2=1
 ·rw[if_pos h1,if_pos (by omega)]at h;have:=nO h;omega
 ·rw[if_neg h1,if_neg (by omega)]at h;omega
theorem pC(k:Nat):∀ {n m:Nat},n<4294967296->m<4294967296->bits k n=bits k m->n=m:=by
 induction k with
 | zero=>intro n m _ _ h;exact h
 | succ k M=>intro n m aL hm h;exact zL aL hm (M (p5 aL) (p5 hm) h)
theorem Af{n m:Nat}(aL:n<4294967296)(hm:m<4294967296){c:UInt8}(h:q5 n c=q5 m c):n=m:=
 nO (pC 8 (jL aL c) (jL hm c) h)
theorem yu{n:Nat}(aL:n<4294967296){c d:UInt8}(h:q5 n c=q5 n d):c=d:=
 UInt8.toNat_inj.1 (wE (pC 8 (jL aL c) (jL aL d) h))
theorem zB(l:List UInt8):∀ {n m:Nat},n<4294967296->m<4294967296->run n l=run m l->n=m:=by
 induction l with
 | nil=>intro n m _ _ h;exact h
 | cons c l M=>intro n m aL hm h;exact Af aL hm (M (kN aL c) (kN hm c) h)
theorem fy(n:Nat)(a b:List UInt8):run n (a++b)=run (run n a) b:=by simp[run,List.foldl_append]
theorem pB(n:Nat)(c:UInt8)(b:List UInt8):run n (c::b)=run (q5 n c) b:=rfl
theorem yn(n:Nat)(a:List UInt8)(c:UInt8):run n (a++[c])=q5 (run n a) c:=by rw[fy];rfl
theorem tf{n:Nat}(aL:n<4294967296)(a b:List UInt8){c d:UInt8}(h:run n (a++c::b)=run n (a++d::b)):c=d:=by
 rw[fy,fy,pB,pB]at h;have ha:=mO a aL;exact yu ha (zB b (kN ha c) (kN ha d) h)
theorem yD{a b:List UInt8}(h:sum a=sum b):run 4294967295 a=run 4294967295 b:=by
 have h1:=mO a (n:=4294967295) (by omega);have h2:=mO b (n:=4294967295) (by omega);unfold sum at h;omega
theorem s7(a b:List UInt8){c d:UInt8}(h:sum (a++c::b)=sum (a++d::b)):c=d:=tf (by omega) a b (yD h)
theorem y7{l:List UInt8}{i:Nat}(hi:i<l.length)(d:UInt8)(h:sum (l.set i d)=sum l):d=l[i]:=by
 have e1:l.set i d=l.take i++d::l.drop (i+1):=by
  rw[List.set_eq_take_append_cons_drop,if_pos hi]
 have a5:l=l.take i++l[i]::l.drop (i+1):=by
  rw[<-List.drop_eq_getElem_cons hi,List.take_append_drop]
 rw[e1]at h;have J:sum (l.take i++d::l.drop (i+1))=sum (l.take i++l[i]::l.drop (i+1)):=by rw[h];exact congrArg sum a5
 exact s7 _ _ J
def number(l:List UInt8):Nat:=l.foldl (λn c=>n*256+c.toNat) 0
def gv(n:Nat):List UInt8:=[UInt8.ofNat (n / 256),UInt8.ofNat n]
def gF(n:Nat):List UInt8:=[UInt8.ofNat (n / 16777216),UInt8.ofNat (n / 65536),UInt8.ofNat (n / 256),UInt8.ofNat n]
theorem kr(l:List UInt8)(c:UInt8):number (l++[c])=number l*256+c.toNat:=by simp[number,List.foldl_append]
theorem jj{n:Nat}(h:n<65536):number (gv n)=n:=by
 simp only[number,gv,List.foldl_cons,List.foldl_nil,UInt8.toNat_ofNat'];omega
theorem jp{n:Nat}(h:n<4294967296):number (gF n)=n:=by
 simp only[number,gF,List.foldl_cons,List.foldl_nil,UInt8.toNat_ofNat'];omega
theorem rD(x y:UInt8):gv (number [x,y])=[x,y]:=by
 have hx:=x.toNat_lt;have hy:=y.toNat_lt;simp only[number,gv,List.foldl_cons,List.foldl_nil,List.cons.injEq,and_true];constructor<;>(apply UInt8.toNat_inj.1;rw[UInt8.toNat_ofNat'];omega)
theorem rV(x y z u:UInt8):gF (number [x,y,z,u])=[x,y,z,u]:=by
 have hx:=x.toNat_lt;have hy:=y.toNat_lt;have hz:=z.toNat_lt;have hu:=u.toNat_lt;simp only[number,gF,List.foldl_cons,List.foldl_nil,List.cons.injEq,and_true];refine⟨?_,?_,?_,?_⟩<;>(apply UInt8.toNat_inj.1;rw[UInt8.toNat_ofNat'];omega)
def wrap(b:List UInt8):List UInt8:=gv b.length++gF (sum b)++b
theorem dC(b:List UInt8):(wrap b).length=6+b.length:=by simp[wrap,gv,gF];omega
def head(b:List UInt8):Option (List UInt8):=
 if b.length<=6 then none else
 if number (b.take 2)=0\/4000<number (b.take 2)\/b.length<6+number (b.take 2)then none else
 if number ((b.drop 2).take 4)=sum ((b.drop 6).take (number (b.take 2)))then some ((b.drop 6).take (number (b.take 2)))else none
def scan:Nat->List UInt8->List (List UInt8)
 | 0,_=>[]
 | f+1,b=>match head b with
  | none=>[]
  | some p=>p::scan f (b.drop (6+p.length))
def full(b:List UInt8):List (List UInt8):=scan b.length b
def used:List (List UInt8)->Nat
 | []=>0
 | p::r=>6+p.length+used r
theorem nD{b p:List UInt8}(h:head b=some p):0<p.length/\p.length<=4000/\6+p.length<=b.length/\p=(b.drop 6).take p.length/\p.length=number (b.take 2)/\number ((b.drop 2).take 4)=sum p:=by
 unfold head at h;split at h
 ·cases h
 ·split at h
  ·cases h
  ·split at h
   ·rename_i h1 h2 a1;have hp:(b.drop 6).take (number (b.take 2))=p:=Option.some.inj h;have hl:p.length=number (b.take 2):=by
     rw[<-hp,List.length_take,List.length_drop];omega
    rw[<-hp]at hl;refine⟨by rw[<-hp];omega,by rw[<-hp];omega,by rw[<-hp];omega,by rw[<-hp,hl],by rw[<-hp];exact hl,by rw[<-hp];exact a1⟩
   ·cases h
theorem qE(f:Nat):∀ (g:Nat) (b:List UInt8),b.length<=f->b.length<=g->scan f b=scan g b:=by
 induction f with
 | zero=>
  intro g b hf _;obtain rfl:b=[]:=List.eq_nil_of_length_eq_zero (by omega);cases g with
  | zero=>rfl
  | succ g=>rfl
 | succ f M=>
  intro g b hf hg;cases g with
  | zero=>
   obtain rfl:b=[]:=List.eq_nil_of_length_eq_zero (by omega);rfl
  | succ g=>
   unfold scan;cases hh:head b with
   | none=>rfl
   | some p=>
    have:=nD hh;simp only[];rw[M g _ (by rw[List.length_drop];omega) (by rw[List.length_drop];omega)]
theorem ho{b:List UInt8}(h:head b=none):full b=[]:=by
 unfold full;cases a7:b.length with
 | zero=>rfl
 | succ n=>simp only[scan,h]
theorem ow{b p:List UInt8}(h:head b=some p):full b=p::full (b.drop (6+p.length)):=by
 have hs:=nD h;unfold full;cases a7:b.length with
 | zero=>omega
 | succ n=>
  simp only[scan,h];rw[qE n _ _ (by rw[List.length_drop];omega) (Nat.le_refl _)]
theorem qY(a b:List (List UInt8)):used (a++b)=used a+used b:=by
 induction a with
 | nil=>simp[used]
 | cons p a M=>simp only[List.cons_append,used,M];omega
theorem kn(a:List (List UInt8))(p:List UInt8):used (a++[p])=used a+(6+p.length):=by rw[qY];simp[used]
theorem mA(b r:List UInt8):(wrap b++r).take 2=gv b.length:=by simp[wrap,gv,gF]
theorem xG(b r:List UInt8):((wrap b++r).drop 2).take 4=gF (sum b):=by simp[wrap,gv,gF]
theorem sy(b r:List UInt8):(wrap b++r).drop 6=b++r:=by simp[wrap,gv,gF]
theorem ux(b r:List UInt8)(h0:0<b.length)(h1:b.length<=4000):head (wrap b++r)=some b:=by
 have hl:(wrap b++r).length=6+b.length+r.length:=by rw[List.length_append,dC]
 unfold head;rw[mA,xG,sy,jj (by omega),jp (qP _),hl,if_neg (by omega),if_neg (by omega)];simp
theorem g3(b r:List UInt8)(h0:0<b.length)(h1:b.length<=4000):full (wrap b++r)=b::full r:=by
 rw[ow (ux b r h0 h1)];congr 2;rw[List.drop_append,dC];simp[dC]
def wraps(l:List (List UInt8)):List UInt8:=l.flatMap wrap
theorem sS(l:List (List UInt8))(b:List UInt8):wraps (l++[b])=wraps l++wrap b:=by simp[wraps]
theorem rR(l:List (List UInt8))(r:List UInt8)(h:∀b∈l,0<b.length/\b.length<=4000):full (wraps l++r)=l++full r:=by
 induction l with
 | nil=>simp[wraps]
 | cons b l M=>
  have e:wraps (b::l)=wrap b++wraps l:=(by simp[wraps]);rw[e,List.append_assoc,g3 b _ (h b (by simp)).1 (h b (by simp)).2,M (λx hx=>h x (by simp[hx]))];rfl
theorem wK(b:List UInt8){k:Nat}(a7:b.length<=4000)(hk:k<6+b.length):head ((wrap b).take k)=none:=by
 have hl:((wrap b).take k).length=k:=by rw[List.length_take,dC];omega
 unfold head;rw[hl];by_cases h6:k<=6
 ·rw[if_pos h6]
 ·rw[if_neg h6];have ht:((wrap b).take k).take 2=gv b.length:=by
   rw[List.take_take,show min 2 k=2 by omega];have:=mA b [];simpa using this
  rw[ht,jj (by omega),if_pos (by omega)]
theorem xP(l:List (List UInt8))(b:List UInt8)(k:Nat)(h:∀x∈l,0<x.length/\x.length<=4000)(a7:b.length<=4000)(hk:k<6+b.length):full ((wraps (l++[b])).take ((wraps l).length+k))=l:=by
 have e:(wraps (l++[b])).take ((wraps l).length+k)=wraps l++(wrap b).take k:=by
  rw[sS,List.take_append,List.take_of_length_le (by omega)];congr 2;omega
 rw[e,rR l _ h,ho (wK b a7 hk)];simp
theorem qt(b:List UInt8)(i:Nat)(d:UInt8)(h0:0<b.length)(h1:b.length<=4000)(hi:i<b.length)(hd:d≠b[i]):head ((wrap b).set (6+i) d)=none:=by
 have e:(wrap b).set (6+i) d=gv b.length++gF (sum b)++b.set i d:=by
  unfold wrap;rw[List.set_append_right _ _ (by simp[gv,gF])];congr 2;simp[gv,gF]
 have hl:(gv b.length++gF (sum b)++b.set i d).length=6+b.length:=by simp[gv,gF];omega
 have a5:(gv b.length++gF (sum b)++b.set i d).take 2=gv b.length:=by simp[gv,gF]
 have e4:((gv b.length++gF (sum b)++b.set i d).drop 2).take 4=gF (sum b):=by simp[gv,gF]
 have I:(gv b.length++gF (sum b)++b.set i d).drop 6=b.set i d:=by simp[gv,gF]
 rw[e];unfold head;rw[a5,e4,I,jj (by omega),jp (qP _),hl,if_neg (by omega),if_neg (by omega),List.take_of_length_le (by simp)];rw[if_neg];intro hc;exact hd (y7 hi d hc.symm)
theorem qq(a b:List UInt8)(i:Nat)(d:UInt8)(ha:0<a.length)(aX:a.length<=4000)(h0:0<b.length)(h1:b.length<=4000)(hi:i<b.length)(hd:d≠b[i]):
 full (wrap a++(wrap b).set (6+i) d)=[a]:=by
 rw[g3 a _ ha aX,ho (qt b i d h0 h1 hi hd)]
theorem y6{b:List UInt8}{n:Nat}(h6:6<=b.length)(aL:n=number (b.take 2))(hl:6+n<=b.length):
 wrap ((b.drop 6).take n)=b.take (6+n)↔number ((b.drop 2).take 4)=sum ((b.drop 6).take n):=by
 obtain⟨x,y,z,u,v,t,r,rfl⟩:∃x y z u v t r,b=x::y::z::u::v::t::r:=by
  match b,h6 with
  | x::y::z::u::v::t::r,_=>exact⟨x,y,z,u,v,t,r,rfl⟩
 simp only[List.take_succ_cons,List.take_zero,List.drop_succ_cons,List.drop_zero]at aL ⊢;have hlen:(r.take n).length=n:=by
  rw[List.length_take];simp only[List.length_cons]at hl;omega
 have h2:gv n=[x,y]:=by rw[aL];exact rD x y
 have e:wrap (r.take n)=[x,y]++gF (sum (r.take n))++r.take n:=by unfold wrap;rw[hlen,h2]
 have e':(x::y::z::u::v::t::r).take (6+n)=[x,y]++[z,u,v,t]++r.take n:=by
  rw[show 6+n=n+1+1+1+1+1+1 by omega];simp only[List.take_succ_cons];rfl
 rw[e,e'];constructor
 ·intro h;have J:=List.append_cancel_right h;have I:=List.append_cancel_left J;rw[<-I,jp (qP _)]
 ·intro h;rw[<-h,rV]
theorem su:full (wrap [97]++wrap [97])=[[97],[97]]:=by
 rw[g3 _ _ (by decide) (by decide)];have:=g3 [97] [] (by decide) (by decide);rw[List.append_nil]at this;rw[this];rfl
end Fr
namespace Fr0
open Go.Proofs.YtgblliofomgggaaGreat.Old
theorem take_one(l:List UInt8)(k:Nat)(h:k<l.length):l.take (k+1)=l.take k++[l[k]]:=by
 rw[List.take_succ_eq_append_getElem h]
theorem yJ(l:List UInt8)(k:Nat)(h:k<l.length):Fr.run 4294967295 (l.take (k+1))=Fr.bits 8 (Fr.run 4294967295 (l.take k) ^^^ l[k].toNat):=by
 rw[take_one l k h,Fr.yn];rfl
theorem wR{j m x:Nat}(hj:j<8)(h1:m % 2=1)(h:Fr.bits (8-j) m=x):Fr.bits (8- (j+1)) ((m / 2) ^^^ 3945912366)=x:=by
 rw[<-h,show 8-j=(8- (j+1))+1 by omega];simp only[Fr.bits,Fr.bit,if_pos h1]
theorem uC{j m x:Nat}(hj:j<8)(h1:¬m % 2=1)(h:Fr.bits (8-j) m=x):Fr.bits (8- (j+1)) (m / 2)=x:=by
 rw[<-h,show 8-j=(8- (j+1))+1 by omega];simp only[Fr.bits,Fr.bit,if_neg h1]
theorem Co{n:Nat}(h:n<4294967296):bits .xor .u32 IntKind.u32.max (n:Int)=((4294967295-n:Nat):Int):=by
 have e:4294967295 ^^^ n=4294967295-n:=by
  apply Nat.eq_of_testBit_eq;intro i;rw[Nat.testBit_xor,show 4294967295-n=2 ^ 32- (n+1) by omega,Nat.testBit_two_pow_sub_succ (by omega),show 4294967295=2 ^ 32-1 by rfl,Nat.testBit_two_pow_sub_one];by_cases hi:i<32
  ·simp[hi]
  ·have:n.testBit i=false:=Nat.testBit_lt_two_pow (Nat.lt_of_lt_of_le h (by have:2 ^ 32<=2 ^ i:=Nat.pow_le_pow_right (by omega) (by omega);omega));simp[hi,this]
 have:=u32_xor_nat 4294967295 n (by omega) h;rw[e]at this;exact this
theorem nL(A:Option Addr)(c B:Nat)(l:List UInt8)(w:World)(h:Bytes w B A l)(hm:l.length<=9223372036854775807):
 Calls Tryz.prog 126 #[Y A l.length c] w λe w'=>e=.returned (.int .u32 (Fr.sum l))/\w=w':=by
 go_enter Tryz.func126,Tryz.ntmps126;go_wp2
 go_loop [3,9] (λs i=>∃k:Nat,k<=l.length/\i=I af k/\s=.int .u32 (Fr.run 4294967295 (l.take k))) (λ_ i=>l.length- (intOf i).toNat)
 case atStart=>exact⟨0,Nat.zero_le _,rfl,rfl⟩
 case round=>
  obtain⟨k,hk,rfl,rfl⟩:=hrel;have hr:=Fr.mO (l.take k) (n:=4294967295) (by omega);by_cases bA:k<l.length
  ·obtain⟨b,off,rfl,a7,hc⟩:=h.byte bA;have M:=Fr.jL hr l[k];have aB:(l[k].toNat:Int) % 4294967296=l[k].toNat:=(by have:=l[k].toNat_lt;omega);have e1:=u32_xor_nat (Fr.run 4294967295 (l.take k)) l[k].toNat hr (by have:=l[k].toNat_lt;omega);have HR:=Lib.hid (yJ l k bA);go_wp2
   go_loop [3,17] (λs i=>∃j m:Nat,j<=8/\m<4294967296/\i=I af j/\s=.int .u32 m/\Fr.bits (8-j) m=Fr.bits 8 (Fr.run 4294967295 (l.take k) ^^^ l[k].toNat)) (λ_ i=>8- (intOf i).toNat)
   case atStart=>exact⟨0,_,by omega,M,rfl,rfl,rfl⟩
   case round=>
    obtain⟨j,m,hj,aw,rfl,rfl,hd⟩:=hrel;have HD:=Lib.hid hd;clear hd e1;by_cases J:j<8
    ·have a5:bits .and .u32 (m:Int) 1=((m % 2:Nat):Int):=by
      have:=u32_and_nat m 1 aw (by omega);rw[nat_mask1]at this;exact this
     have e3:=u32_xor_nat (m / 2) 3945912366 (by omega) (by omega);have a1:m / 2 ^^^ 3945912366<4294967296:=Nat.xor_lt_two_pow (n:=32) (by omega) (by omega);by_cases h1:m % 2=1
     ·have ak:=Lib.hid (wR J h1 HD.out);have g1:((m:Int) % 2==1)=true:=(by rw[beq_iff_eq];omega);go_wp2
      go_round
      case rel=>exact⟨j+1,_,by omega,a1,by go_num,by rw[show((m:Int) / 2)=((m / 2:Nat):Int) by omega];exact congrArg (Value.int .u32) e3,ak.out⟩
      case measure=>simp[intOf];omega
     ·have ak:=Lib.hid (uC J h1 HD.out);have g1:((m:Int) % 2==1)=false:=(by rw[beq_eq_false_iff_ne];omega);clear h1;go_wp2
      go_round
      case rel=>exact⟨j+1,_,by omega,by omega,by go_num,by go_num,ak.out⟩
      case measure=>simp[intOf];omega
    ·obtain rfl:j=8:=(by omega);have bk:m=Fr.run 4294967295 (l.take (k+1)):=(by rw[HR.out];exact HD.out);have HM:=Lib.hid bk;clear bk;go_wp2
     go_round
     case rel=>exact⟨k+1,by omega,by go_num,by rw[HM.out]⟩
     case measure=>simp[intOf];omega
  ·obtain rfl:k=l.length:=(by omega);have e4:=Co hr;rw[List.take_length]at e4;go_wp2;go_ret;exact⟨by unfold Fr.sum;rfl,rfl⟩
theorem j6(n:Nat):∀l:List UInt8,l.length=n->Fr.number l<256 ^ n:=by
 induction n with
 | zero=>
  intro l hl;obtain rfl:=List.eq_nil_of_length_eq_zero hl;simp[Fr.number]
 | succ n M=>
  intro l hl;have ay:l≠[]:=(by intro h;subst h;simp at hl);have e:=List.dropLast_concat_getLast ay;rw[<-e,Fr.kr,Nat.pow_succ];have:=M l.dropLast (by simp[hl]);have:=(l.getLast ay).toNat_lt;omega
theorem oD(l:List UInt8)(k:Nat)(hk:k<4):Fr.number (l.take k)<16777216:=by
 have h:=j6 (l.take k).length (l.take k) rfl;have hl:(l.take k).length<=3:=by rw[List.length_take];omega
 have:256 ^ (l.take k).length<=256 ^ 3:=Nat.pow_le_pow_right (by omega) hl;omega
theorem yO(a:Nat)(c:UInt8)(h:a<16777216):bits .or .i64 ((a:Int)*256) (c.toNat:Int)=((a*256+c.toNat:Nat):Int):=by
 have hc:=c.toNat_lt;have e:(a*256) ||| c.toNat=a*256+c.toNat:=nat_join 8 _ _ (by omega) (by omega);show IntKind.i64.wrap ((BitVec.ofInt 64 ((a:Int)*256) ||| BitVec.ofInt 64 (c.toNat:Int)).toNat:Int)=_;rw[show((a:Int)*256)=((a*256:Nat):Int) by omega,BitVec.toNat_or,ofInt_u64 _ (by omega),ofInt_u64 _ (by omega),e];exact IntWalk.i64_in _ (by omega)
theorem ri(l:List UInt8)(k:Nat)(h:k<l.length):Fr.number (l.take (k+1))=Fr.number (l.take k)*256+l[k].toNat:=by
 rw[take_one l k h,Fr.kr]
theorem sB(A:Option Addr)(c B q:Nat)(l:List UInt8)(w:World)(f n:Int)(h:Bytes w B A l)(hm:l.length<=9223372036854775807)(hc:l.length<=c)
 (hq:w.cell? (aj q)=some (Y A l.length c)) (h0:0<=f) (h1:0<n) (h4:n<=4) (M:f+n<=l.length):
 Calls Tryz.prog 125 #[ag f,ag n,aj q] w λe w'=>e=.returned (ag (Fr.number ((l.drop f.toNat).take n.toNat)))/\w=w':=by
 obtain⟨f,rfl⟩:=Int.eq_ofNat_of_zero_le h0;obtain⟨n,rfl⟩:=Int.eq_ofNat_of_zero_le (Int.le_of_lt h1);rw[Int.toNat_natCast,Int.toNat_natCast];obtain⟨b,off,rfl,a7,hcell⟩:=h.open_ (by rw[aU];omega);clear h;have ay:¬c=f:=by omega
 obtain⟨p,hp,hlen,J⟩:∃p,p=(l.drop f).take n/\n=p.length/\∀k (hk:k<p.length),w.cell? ⟨b,off+f+k,none⟩=some (.int .u8 (p[k].toNat:Int)):=by
  refine⟨_,rfl,by rw[List.length_take,List.length_drop];omega,λk hk=>?_⟩;rw[List.length_take,List.length_drop]at hk;rw[Nat.add_assoc];refine hcell (f+k) _ ?_;rw[eo l (by omega)];simp
 rw[<-hp];have HC:=Lib.hid J;clear hcell J hp;subst hlen;go_enter Tryz.func125,Tryz.ntmps125;go_wp2
 go_loop [6,16] (λs i=>∃k:Nat,k<=p.length/\i=I af k/\s=I af (Fr.number (p.take k))) (λ_ i=>p.length- (intOf i).toNat)
 case atStart=>exact⟨0,Nat.zero_le _,rfl,rfl⟩
 case round=>
  obtain⟨k,hk,rfl,rfl⟩:=hrel;by_cases bA:k<p.length
  ·have hcell:=HC.out k bA;have hs:=oD p k (by omega);have e1:=yO _ p[k] hs;have aB:wrap64 (p[k].toNat:Int)=p[k].toNat:=IntWalk.wrap64_in _ (by have:=p[k].toNat_lt;omega);have HN:=Lib.hid (ri p k bA);go_wp2
   go_round
   case rel=>exact⟨k+1,by omega,by go_num,by rw[HN.out];go_num⟩
   case measure=>simp[intOf];omega
  ·obtain rfl:k=p.length:=(by omega);rw[List.take_length];go_wp2;go_ret;exact⟨rfl,rfl⟩
theorem Tryz.gg:(Tryz.prog.info? 5).map (λi=>(i.zero,i.size,i.bytes))=some (some (.int .u8 0),1,1):=by kernel_rfl
theorem Tryz.mT:(Tryz.prog.info? 97).map (λi=>(i.zero,i.size,i.bytes))=some (some (Y none 0 0),1,24):=by kernel_rfl
theorem fo(A:Option Addr)(c:Nat)(l:List UInt8)(w:World)(h:Bytes w w A l)(h0:0<l.length)(hm:l.length<=1048576):
 Calls Tryz.prog 127 #[Y A l.length c] w λe w'=>∃A' c',e=.returned (Y A' l.length c')/\w'.ownsRow w 5 1 (Y A' l.length c') l.length (aA l)/\Below w w w':=by
 obtain⟨i0,bM,bL,ae,aa⟩:=info_parts Tryz.gg;obtain⟨b,off,rfl,a7,hcell⟩:=h.open_ (by rw[aU];omega);clear hcell;have aL:=Lib.run_eql_slice_nil (P:=Tryz.prog) w 97 5 (some ⟨b,off,none⟩) l.length c 0 0 Tryz.underlying97;have J:=World.ownsRow_made (e:=5) (size:=1) w #[] 0 (Nat.le_refl _) (Nat.zero_le _) rfl;go_enter Tryz.func127,Tryz.ntmps127;go_wp2_with (at_builtin;refine dg _ rfl (.tmp 5) (.tmp 6) 97 rfl w 5 i0 _ 1 Tryz.underlying97 bM bL ae aa rfl _ 0 [] rfl J w (some ⟨b,off,none⟩) l.length c (aA l) rfl (aU l) (h.alloc (Nat.le_refl _) _) (dT l) (by unfold maxLen;omega) (by omega) (by simp) ?_;intro A1 c1 w1 M ad ai);have aY:=((Below.refl w w).alloc (Nat.le_refl _) (.cells #[] 5)).trans (bC J ad (Nat.le_refl _) (by simp));simp only[Nat.zero_add,List.nil_append]at M;go_ret;exact⟨_,_,rfl,M,aY⟩
def rest:Nat->Nat->List UInt8
 | 0,_=>[]
 | m+1,n=>UInt8.ofNat (n / 256 ^ m)::rest m n
theorem Cr(n:Nat):rest 2 n=Fr.gv n:=by simp[rest,Fr.gv]
theorem Cp(n:Nat):rest 4 n=Fr.gF n:=by simp[rest,Fr.gF]
theorem ff{w w':World}{row:Option Nat}(h:w.drew.grownBy w' row):w.grownBy w' row:=⟨h.os,h.tape,h.output,h.size,h.block⟩
def Out(w:World)(q base:Nat)(l:List UInt8):Prop:=∃v,ai w q 97 #[v]/\w.ownsRow base 5 1 v l.length (aA l)
theorem Out.step{w w1:World}{q base:Nat}{l:List UInt8}{b:UInt8}{u v v1:Value}{O:Obj}(hq:base<=q)(a7:ai w q 97 #[v])(J:w.ownsRow base 5 1 v l.length (aA l))(hs:base<=w.heap.size)
 (M:w1.ownsRow base 5 1 v1 (l.length+1) (aA l++[u])) (hg:(w.alloc O).grownBy w1 v.ownBlock) (hu:u=.int .u8 (b.toNat:Int)):
 Out (w1.setCell (aj q) v1) q base (l++[b])/\Below base w (w1.setCell (aj q) v1):=by
 subst hu;have aY:ai w1 q 97 #[v]:=(a7.alloc O).grown hg (a7.cx J (by decide));have af:Below base w w1:=((Below.refl base w).alloc hs O).trans (bC (J.alloc O) hg (Nat.le_refl _) (by simp;omega));refine⟨⟨v1,by simpa using aY.put 0 v1,?_⟩,af.setCell hq _⟩;rw[cm,List.length_append];exact dU M (p:=⟨q,0,none⟩) (aY.cx M (by decide)) v1
theorem jK(n m:Nat)(x:Int)(hx:x=((n / 256 ^ m:Nat):Int)):Value.int .u8 (IntKind.u8.wrap x)=.int .u8 ((UInt8.ofNat (n / 256 ^ m)).toNat:Int):=by
 subst hx;rw[IntKind.wrap_u8,UInt8.toNat_ofNat'];congr 1
theorem sG(k q base:Nat)(l:List UInt8)(w:World)(n:Nat)(h4:k<=4)(hl:l.length<=100000)(hq:base<=q)(ho:Out w q base l)(hs:base<=w.heap.size):
 Calls Tryz.prog 294 #[.int .u32 n,ag k,aj q] w λe w'=>e=.returned (.tuple #[])/\Out w' q base (l++rest k n)/\Below base w w':=by
 obtain⟨i0,bM,bL,ae,aa⟩:=info_parts Tryz.gg;go_enter Tryz.func294,Tryz.ntmps294;go_wp2
 go_loopw [5] (λi wr=>∃ (m:Nat) (x:Int) (cur:List UInt8),m<=4/\i=I af x/\x+1=m/\cur.length+m<=100004/\Out wr q base cur/\cur++rest m n=l++rest k n/\Below base w wr) (λi _=>(intOf i+1).toNat)
 case atStart=>exact⟨k,_,l,h4,rfl,by omega,by omega,ho,rfl,Below.refl _ _⟩
 case round=>
  obtain⟨m,x,cur,hm,rfl,hx,db,⟨v,Y,J⟩,aq,aK⟩:=hrel;have HX:=Lib.hid hx;have HC:=Lib.hid aq;clear hx aq ho;have ba:=Y.cell 0;have f0:=Y.free 0;simp at ba;have bb:∀O,(wr.alloc O).cell? (aj q)=some v:=λO=>(by simpa using(Y.alloc O).cell 0);have w0:IntKind.i64.wrap 0=0:=(by decide);have w8:IntKind.i64.wrap 8=8:=(by decide);have a3:IntKind.i64.wrap 16=16:=(by decide);have bG:IntKind.i64.wrap 24=24:=(by decide);have ax:base<=wr.heap.size:=Nat.le_trans hs aK.size;by_cases h0:m=0
  ·subst h0;obtain rfl:x= -1:=(by have:=HX.out;omega);have hr:cur=l++rest k n:=(by rw[<-HC.out];simp[rest]);have HR:=Lib.hid hr;clear hr;go_wp2
   go_end0
   exact⟨rfl,by rw[<-HR.out];exact⟨v,Y,J⟩,aK⟩
  ·obtain rfl | rfl | rfl | rfl:x=0\/x=1\/x=2\/x=3:=by have:=HX.out;omega
   ·go_wp2
    go_region_law ((refine eP _ rfl (.tmp 12) (.tmp 18) 97 rfl base 5 i0 _ 1 Tryz.underlying97 bM bL ae aa rfl v cur.length (aA cur) (by simp[Act.eval]) (by exact J.alloc _) (wr.heap.size+1) (aj wr) 1 1 [.int .u8 (IntKind.u8.wrap (n:Int))] (by simp[Act.eval]) rfl (by exact(a6.one wr 5 _).drew) (by simp[Value.oneCell']) (by unfold maxLen;omega) (by omega) (by simp;omega) ?_;intro A1 c1 w1 M ad ai;have aN:=ff ad;have aY:=(Y.alloc _).grown aN (Y.cx J (by decide));have bi:=aY.cell 0;have ah:=aY.free 0;simp at bi))
    all_goals
     have R:=Out.step hq Y J ax M aN (jK n 0 _ (by simp));go_wp2
     go_roundw
     case rel=>exact⟨0,_,cur++[UInt8.ofNat (n / 256 ^ 0)],by omega,rfl,by omega,by have:=HX.out;simp;omega,R.1,by rw[<-HC.out,show m=0+1 by have:=HX.out;omega];simp[rest],aK.trans R.2⟩
     case measure=>simp[intOf]
   ·go_wp2
    go_region_law ((refine eP _ rfl (.tmp 12) (.tmp 18) 97 rfl base 5 i0 _ 1 Tryz.underlying97 bM bL ae aa rfl v cur.length (aA cur) (by simp[Act.eval]) (by exact J.alloc _) (wr.heap.size+1) (aj wr) 1 1 [.int .u8 (IntKind.u8.wrap ((n:Int) / 256))] (by simp[Act.eval]) rfl (by exact(a6.one wr 5 _).drew) (by simp[Value.oneCell']) (by unfold maxLen;omega) (by omega) (by simp;omega) ?_;intro A1 c1 w1 M ad ai;have aN:=ff ad;have aY:=(Y.alloc _).grown aN (Y.cx J (by decide));have bi:=aY.cell 0;have ah:=aY.free 0;simp at bi))
    all_goals
     have R:=Out.step hq Y J ax M aN (jK n 1 _ (by simp));go_wp2
     go_roundw
     case rel=>exact⟨1,_,cur++[UInt8.ofNat (n / 256 ^ 1)],by omega,rfl,by omega,by have:=HX.out;simp;omega,R.1,by rw[<-HC.out,show m=1+1 by have:=HX.out;omega];simp[rest],aK.trans R.2⟩
     case measure=>simp[intOf]
   ·go_wp2
    go_region_law ((refine eP _ rfl (.tmp 12) (.tmp 18) 97 rfl base 5 i0 _ 1 Tryz.underlying97 bM bL ae aa rfl v cur.length (aA cur) (by simp[Act.eval]) (by exact J.alloc _) (wr.heap.size+1) (aj wr) 1 1 [.int .u8 (IntKind.u8.wrap ((n:Int) / 65536))] (by simp[Act.eval]) rfl (by exact(a6.one wr 5 _).drew) (by simp[Value.oneCell']) (by unfold maxLen;omega) (by omega) (by simp;omega) ?_;intro A1 c1 w1 M ad ai;have aN:=ff ad;have aY:=(Y.alloc _).grown aN (Y.cx J (by decide));have bi:=aY.cell 0;have ah:=aY.free 0;simp at bi))
    all_goals
     have R:=Out.step hq Y J ax M aN (jK n 2 _ (by simp));go_wp2
     go_roundw
     case rel=>exact⟨2,_,cur++[UInt8.ofNat (n / 256 ^ 2)],by omega,rfl,by omega,by have:=HX.out;simp;omega,R.1,by rw[<-HC.out,show m=2+1 by have:=HX.out;omega];simp[rest],aK.trans R.2⟩
     case measure=>simp[intOf]
   ·go_wp2
    go_region_law ((refine eP _ rfl (.tmp 12) (.tmp 18) 97 rfl base 5 i0 _ 1 Tryz.underlying97 bM bL ae aa rfl v cur.length (aA cur) (by simp[Act.eval]) (by exact J.alloc _) (wr.heap.size+1) (aj wr) 1 1 [.int .u8 (IntKind.u8.wrap ((n:Int) / 16777216))] (by simp[Act.eval]) rfl (by exact(a6.one wr 5 _).drew) (by simp[Value.oneCell']) (by unfold maxLen;omega) (by omega) (by simp;omega) ?_;intro A1 c1 w1 M ad ai;have aN:=ff ad;have aY:=(Y.alloc _).grown aN (Y.cx J (by decide));have bi:=aY.cell 0;have ah:=aY.free 0;simp at bi))
    all_goals
     have R:=Out.step hq Y J ax M aN (jK n 3 _ (by simp));go_wp2
     go_roundw
     case rel=>exact⟨3,_,cur++[UInt8.ofNat (n / 256 ^ 3)],by omega,rfl,by omega,by have:=HX.out;simp;omega,R.1,by rw[<-HC.out,show m=3+1 by have:=HX.out;omega];simp[rest],aK.trans R.2⟩
     case measure=>simp[intOf]
theorem wY(A:Option Addr)(c:Nat)(l:List UInt8)(w:World)(h:Bytes w w A l)(h0:0<l.length)(h1:l.length<=4000):
 Calls Tryz.prog 249 #[Y A l.length c] w λe w'=>∃A' c',e=.returned (.tuple #[Y A' (6+l.length) c',ag 0])/\w'.ownsRow w 5 1 (Y A' (6+l.length) c') (6+l.length) (aA (Fr.wrap l))/\Below w w w':=by
 obtain⟨i0,bM,bL,ae,aa⟩:=info_parts Tryz.gg;have au:((l.length:Int)==0)=false:=by rw[beq_eq_false_iff_ne];omega
 have az:(l.length:Int) % 4294967296=l.length:=by omega
 go_enter Tryz.func249,Tryz.ntmps249;go_wp2_with (at_make;refine wpList_make_own _ rfl _ _ 97 rfl w 5 i0 _ 1 Tryz.underlying97 bM bL ae .i64 .i64 _ (6+l.length) rfl rfl (by omega) (by rw[aa];omega) (by unfold maxLen;omega) (Nat.le_refl _) ?_;intro w1 M aN);have bQ:w.heap.size<=w1.heap.size:=aN.size;have aY:Below w w w1:=(Below.refl _ _).grown aN (Nat.le_refl _) (by simp);have ad:Out (w1.alloc (.cells #[Y (aj w) 0 (6+l.length)] 97)) w1 w []:=⟨_,ai.made w1 97 _,M.alloc _⟩;refine(sG 2 w1 w [] _ l.length (by omega) (by simp) bQ ad (by simp;omega)).mono ?_;rintro e w2 ⟨rfl,J,aG⟩;have ao:Below w w w2:=(aY.alloc bQ _).trans aG;go_wp2_with (go_at_call 126;refine(nL A c w l _ (h.below ao) (by omega)).mono ?_;rintro e w' ⟨rfl,rfl⟩);refine(sG 4 w1 w _ _ (Fr.sum l) (by omega) (by simp[rest]) bQ J ao.size).mono ?_;rintro e w3 ⟨rfl,⟨v3,ar,af⟩,ah⟩;have am:=ao.trans ah;simp only[List.nil_append,Cr,Cp]at af;have ak:w3.ownsRow w 5 1 v3 6 (aA (Fr.gv l.length++Fr.gF (Fr.sum l))):=af;have c3:=ar.cell 0;simp at c3;clear af ad J;go_wp2_with (at_builtin;refine dg _ rfl (.tmp 28) (.tmp 29) 97 rfl w 5 i0 _ 1 Tryz.underlying97 bM bL ae aa rfl v3 6 _ rfl ak w A l.length c (aA l) rfl (aU l) (h.below am) (dT l) (by unfold maxLen;omega) (by omega) am.size ?_;intro A4 c4 w4 I av aq);have cn:=am.trans (bC ak av (Nat.le_refl _) am.size);rw[<-cm]at I;go_ret2;exact⟨_,_,rfl,I,cn⟩
theorem hr(A:Option Addr)(c B q:Nat)(l:List UInt8)(w:World)(F K:Int)(f k n:Nat)(hF:F=f)(ad:K=k)(aL:n=Fr.number ((l.drop f).take k))(h:Bytes w B A l)(hm:l.length<=9223372036854775807)(hc:l.length<=c)
 (hq:w.cell? (aj q)=some (Y A l.length c)) (h1:0<k) (h4:k<=4) (M:f+k<=l.length):
 Calls Tryz.prog 125 #[ag F,ag K,aj q] w λe w'=>e=.returned (ag n)/\w=w':=by
 subst hF ad aL;exact sB A c B q l w f k h hm hc hq (by omega) (by omega) (by omega) (by omega)
section
variable {w w':World}{base base' e e' n m:Nat}{v u:Value}{xs ys:List Value}
theorem aT(h:w.ownsRow base e 1 v n xs)(a7:Below w w w'):w'.ownsRow base e 1 v n xs:=by
 refine⟨h.1,?_⟩;rcases h.2 with aL | ⟨g,cap,cur,hv,hg,hh,rest⟩
 ·exact .inl aL
 ·exact .inr ⟨g,cap,cur,hv,hg,(a7.block g (Array.getElem?_eq_some_iff.1 hh).1).trans hh,rest⟩
theorem dt(h:w.ownsRow base e 1 v n xs)(a7:base'<=base):w.ownsRow base' e 1 v n xs:=by
 refine⟨h.1,?_⟩;rcases h.2 with aL | ⟨g,cap,cur,hv,hg,rest⟩
 ·exact .inl aL
 ·exact .inr ⟨g,cap,cur,hv,by omega,rest⟩
theorem qJ(h:w.ownsRow base e 1 v n xs)(k:w.ownsRow base' e' 1 u m ys)(ay:e≠e'):v.ownBlock=none\/v.ownBlock≠u.ownBlock:=by
 rcases h.2 with⟨rfl,_⟩ | ⟨g,cap,cur,rfl,hg,hh,_⟩
 ·exact .inl rfl
 ·right;exact(ai.cx (cs:=cur) hh k (Ne.symm ay))
end
def B7(w:World)(base:Nat)(xs:List Value)(ls:List (List UInt8)):Prop:=
 xs.length=ls.length/\∀ (i:Nat) (u:Value) (p:List UInt8),xs[i]? =some u->ls[i]? =some p->w.ownsRow base 5 1 u p.length (aA p)
def jO(w:World)(base:Nat)(v:Value)(ls:List (List UInt8)):Prop:=∃A c xs,v=Y A ls.length c/\w.ownsRow base 97 1 v ls.length xs/\B7 w base xs ls
theorem jO.none_(w:World)(base:Nat):jO w base (Y none 0 0) []:=⟨_,_,[],rfl,World.ownsRow_nil _ _ _ _,rfl,λi u p h=>by simp at h⟩
theorem jO.mono{w:World}{base base':Nat}{v:Value}{ls:List (List UInt8)}(h:jO w base v ls)(a7:base'<=base):jO w base' v ls:=by
 obtain⟨A,c,xs,hv,ho,hl,hx⟩:=h;exact⟨A,c,xs,hv,dt ho a7,hl,λi u p h1 h2=>dt (hx i u p h1 h2) a7⟩
theorem jO.below{w w':World}{base:Nat}{v:Value}{ls:List (List UInt8)}(h:jO w base v ls)(a7:Below w w w'):jO w' base v ls:=by
 obtain⟨A,c,xs,hv,ho,hl,hx⟩:=h;exact⟨A,c,xs,hv,aT ho a7,hl,λi u p h1 h2=>aT (hx i u p h1 h2) a7⟩
theorem jO.step{w w1 w2:World}{base:Nat}{A A2:Option Addr}{c c2:Nat}{u:Value}{xs:List Value}{ls:List (List UInt8)}{p:List UInt8}(hs:base<=w.heap.size)
 (ho:w.ownsRow base 97 1 (Y A ls.length c) ls.length xs) (hx:B7 w base xs ls) (hu:w1.ownsRow w 5 1 u p.length (aA p)) (a7:Below w w w1)
 (J:w2.ownsRow base 97 1 (Y A2 (ls.length+1) c2) (ls.length+1) (xs++[u])) (hg:(w1.alloc (.cells #[u] 97)).grownBy w2 (Value.slice A ls.length c).ownBlock):
 jO w2 base (Y A2 (ls.length+1) c2) (ls++[p])/\Below base w w2:=by
 have ad:(w1.alloc (.cells #[u] 97)).ownsRow base 97 1 (Y A ls.length c) ls.length xs:=(aT ho a7).alloc _;have av:base<=(w1.alloc (.cells #[u] 97)).heap.size:=by have:=a7.size;simp;omega
 refine⟨⟨A2,c2,xs++[u],by simp,by simpa using J,by simp[hx.1],?_⟩,((a7.mono hs).alloc (by have:=a7.size;omega) _).trans (bC ad hg (Nat.le_refl _) av)⟩;intro i x r h1 h2;rw[List.getElem?_append]at h1 h2;rw[hx.1]at h1;by_cases hi:i<ls.length
 ·rw[if_pos hi]at h1 h2;have hr:(w1.alloc (.cells #[u] 97)).ownsRow base 5 1 x r.length (aA r):=(aT (hx.2 i x r h1 h2) a7).alloc _;exact hr.kept hg (qJ hr ad (by decide))
 ·rw[if_neg hi]at h1 h2;have bM:i-ls.length=0:=by
   rcases Nat.eq_zero_or_pos (i-ls.length)with h | h
   ·exact h
   ·rw[List.getElem?_eq_none (by simp;omega)]at h1;cases h1
  rw[bM]at h1 h2;simp only[List.getElem?_cons_zero,Option.some.injEq]at h1 h2;subst h1 h2;have hr:(w1.alloc (.cells #[u] 97)).ownsRow base 5 1 u p.length (aA p):=(dt hu hs).alloc _;exact hr.kept hg (qJ hr ad (by decide))
theorem yx(ls:List (List UInt8)):ls.length<=Fr.used ls:=by
 induction ls with
 | nil=>exact Nat.le_refl _
 | cons p r M=>simp only[List.length_cons,Fr.used];omega
section
variable {l:List UInt8}{a n:Nat}
theorem uH(h:l.length<=a+6):Fr.full (l.drop a)=[]:=by
 apply Fr.ho;unfold Fr.head;rw[if_pos (by rw[List.length_drop];omega)]
theorem yF(aL:n=Fr.number ((l.drop a).take 2))(h:n=0\/4000<n\/l.length<a+6+n):Fr.full (l.drop a)=[]:=by
 apply Fr.ho;unfold Fr.head;rw[<-aL];by_cases h6:(l.drop a).length<=6
 ·rw[if_pos h6]
 ·rw[if_neg h6,if_pos];rw[List.length_drop]at h6 ⊢;omega
theorem Aa{p:List UInt8}{m:Nat}(aL:n=Fr.number ((l.drop a).take 2))(hp:p=(l.drop (a+6)).take n)(hm:m=Fr.number ((l.drop (a+2)).take 4))(h:m≠Fr.sum p):Fr.full (l.drop a)=[]:=by
 apply Fr.ho;unfold Fr.head;rw[<-aL,List.drop_drop,List.drop_drop,<-hm,<-hp];by_cases h6:(l.drop a).length<=6
 ·rw[if_pos h6]
 ·rw[if_neg h6];split
  ·rfl
  ·first | rfl | rw[if_neg h]
theorem yM{p:List UInt8}{m:Nat}(h6:a+6<l.length)(aL:n=Fr.number ((l.drop a).take 2))(h0:n≠0)(h4:n<=4000)(hl:a+6+n<=l.length)(hp:p=(l.drop (a+6)).take n)
 (hm:m=Fr.number ((l.drop (a+2)).take 4)) (h:m=Fr.sum p):Fr.full (l.drop a)=p::Fr.full (l.drop (a+6+p.length)):=by
 have hh:Fr.head (l.drop a)=some p:=by
  unfold Fr.head;rw[<-aL,List.drop_drop,List.drop_drop,<-hm,<-hp,if_neg (by rw[List.length_drop];omega),if_neg (by rw[List.length_drop];omega),if_pos h]
 rw[Fr.ow hh,List.drop_drop,Nat.add_assoc]
end
theorem wB(A:Option Addr)(c:Nat)(l:List UInt8)(w:World)(h:Bytes w w A l)(hc:l.length<=c)(hm:l.length<=1048576):
 Calls Tryz.prog 70 #[Y A l.length c] w λe w'=>∃v,e=.returned (.tuple #[v,ag (Fr.used (Fr.full l))])/\jO w' (w.heap.size+1) v (Fr.full l)/\Below w w w':=by
 obtain⟨i0,bM,bL,ae,aa⟩:=info_parts Tryz.mT;go_enter Tryz.func70,Tryz.ntmps70;go_wp2_with fail;go_step3;go_wp2_with fail;go_step3;go_wp2_with fail
 go_loopw [4,5] (λv i wr=>∃done:List (List UInt8),i=I af (Fr.used done)/\Fr.used done<=l.length/\Fr.full l=done++Fr.full (l.drop (Fr.used done))/\jO wr (w.heap.size+1) v done/\ai wr w 97 #[Y A l.length c]/\Below w w wr)
  (λ_ i _=>l.length- (intOf i).toNat)
 case atStart=>exact⟨[],rfl,Nat.zero_le _,rfl,jO.none_ _ _,ai.made _ _ _,(Below.refl _ _).alloc (Nat.le_refl _) _⟩
 case round=>
  obtain⟨done,rfl,hle,aq,ar,aX,aK⟩:=hrel;obtain⟨at_,ah⟩:=am (Fr.used done);rw[<-ah]at hle aq ⊢;have HF:=Lib.hid aq;have HA:=Lib.hid ah;clear aq ah;have cq:=aX.cell 0;simp at cq;by_cases h6:at_+6<l.length
  ·obtain⟨aW,off,rfl,au,hcell⟩:=h.open_ (by rw[aU];omega);clear hcell;obtain⟨n,aL⟩:=am (Fr.number ((l.drop at_).take 2));have HN:=Lib.hid aL;clear aL;have aA:n<65536:=by
    have:=j6 ((l.drop at_).take 2).length ((l.drop at_).take 2) rfl;rw[HN.out];have h2:((l.drop at_).take 2).length<=2:=(by rw[List.length_take];omega);have:256 ^ ((l.drop at_).take 2).length<=256 ^ 2:=Nat.pow_le_pow_right (by omega) h2;omega
   by_cases av:n=0\/4000<n\/l.length<at_+6+n
   ·have ak:Fr.full l=done:=(by rw[HF.out,yF HN.out av,List.append_nil]);have HE:=Lib.hid ak;clear ak;obtain a7 | a7 | a7:n=0\/(n≠0/\4000<n)\/(n≠0/\n<=4000/\l.length<at_+6+n):=by omega
    focus
     have g1:((n:Int)==0)=true:=by rw[beq_iff_eq];omega
    rotate_left
    focus
     have g1:((n:Int)==0)=false:=(by rw[beq_eq_false_iff_ne];omega);have g2:4000<(n:Int):=by omega
    rotate_left
    focus
     have g1:((n:Int)==0)=false:=(by rw[beq_eq_false_iff_ne];omega);have g2:(n:Int)<=4000:=(by omega);have g3:(l.length:Int)- (at_+6)<n:=by omega
    all_goals
     clear av a7;go_wp2_with (go_at_call 125;refine(hr _ c w w l _ _ _ at_ 2 n rfl rfl HN.out (h.below aK) (by omega) hc cq (by omega) (by omega) (by omega)).mono ?_;rintro e w' ⟨rfl,rfl⟩);rw[Exit.noGoto_ret];go_ret2;exact⟨_,by rw[HE.out,HA.out];rfl,by rw[HE.out];exact ar,aK⟩
   ·have h0:n≠0:=(by omega);have h4:n<=4000:=(by omega);have hl:at_+6+n<=l.length:=(by omega);clear av;obtain⟨p,hp,bh⟩:∃p,p=(l.drop (at_+6)).take n/\n=p.length:=⟨_,rfl,by rw[List.length_take,List.length_drop];omega⟩;obtain⟨m,aR⟩:=am (Fr.number ((l.drop (at_+2)).take 4));have aw:m<4294967296:=by
     have:=j6 ((l.drop (at_+2)).take 4).length ((l.drop (at_+2)).take 4) rfl;rw[aR];have h2:((l.drop (at_+2)).take 4).length<=4:=(by rw[List.length_take];omega);have:256 ^ ((l.drop (at_+2)).take 4).length<=256 ^ 4:=Nat.pow_le_pow_right (by omega) h2;omega
    have HM:=Lib.hid aR;have HP:=Lib.hid hp;have ay:Bytes w w (some ⟨aW,off+(at_+6),none⟩) p:=by
     have:=h.cut (k:=at_+6) (n:=n) (by rw[aU];omega) (some ⟨aW,off+(at_+6),none⟩) (λ_=>by simp[Addr.add]);rw[lP,<-hp]at this;exact this
    clear aR hp;subst bh;have g1:((p.length:Int)==0)=false:=(by rw[beq_eq_false_iff_ne];omega);have g2:(p.length:Int)<=4000:=(by omega);have g3:(p.length:Int)<=l.length- (at_+6):=(by omega);have g4:¬c=at_+6:=(by omega);have az:(m:Int) % 4294967296=m:=(by omega);by_cases hs:m=Fr.sum p
    ·have M:=yM h6 HN.out h0 h4 hl HP.out HM.out hs;have HG:=Lib.hid M;obtain⟨Ao,co,xs,rfl,ho,hx⟩:=ar;have ax:done.length<=1048576:=(by have:=yx done;have:=HA.out;omega);have g5:((m:Int) !=(Fr.sum p:Nat))=false:=(by rw[bne_eq_false_iff_eq];omega);clear M hs;go_wp2_with fail;refine(hr _ c w w l _ _ _ at_ 2 p.length rfl rfl HN.out (h.below aK) (by omega) hc cq (by omega) (by omega) (by omega)).mono ?_;rintro e w' ⟨rfl,rfl⟩;go_wp2_with fail;refine(hr _ c w w l _ _ _ (at_+2) 4 m rfl rfl HM.out (h.below aK) (by omega) hc cq (by omega) (by omega) (by omega)).mono ?_;rintro e w' ⟨rfl,rfl⟩;go_wp2_with fail;refine(nL _ _ w.heap.size p _ (ay.below aK) (by omega)).mono ?_;rintro e w' ⟨rfl,rfl⟩;go_wp2_with fail;refine(fo _ _ p _ ((ay.below aK).more aK.size) (by omega) (by omega)).mono ?_;rintro e w1 ⟨Au,cu,rfl,hu,aY⟩;have ad:=(aT ho aY).alloc (.cells #[Y Au p.length cu] 97);have bQ:w.heap.size+1<=w1.heap.size:=Nat.le_trans aX.lt aY.size;go_wp2_with (at_builtin;refine dg _ rfl (.tmp 49) (.tmp 52) 104 rfl (w.heap.size+1) 97 i0 _ 24 Tryz.underlying104 bM bL ae aa rfl _ done.length xs rfl ad (w1.heap.size+1) (aj w1) 1 1 [Y Au p.length cu] rfl rfl (a6.one w1 97 _) (by simp[Value.oneCell']) (by unfold maxLen;omega) (by omega) (by simp;omega) ?_;intro A2 c2 w2 J aF ao);have R:=jO.step aX.lt ho hx hu aY J aF
     go_roundw
     case rel=>exact⟨done++[p],by rw[Fr.kn,<-HA.out];go_num,by rw[Fr.kn,<-HA.out];omega,by rw[HF.out,HG.out,Fr.kn,<-HA.out,List.append_assoc,Nat.add_assoc];rfl,R.1,aX.below R.2 (Nat.lt_succ_self _),aK.trans (R.2.mono (Nat.le_succ _))⟩
     case measure=>simp[intOf];omega
    ·have ak:Fr.full l=done:=(by rw[HF.out,Aa HN.out HP.out HM.out hs,List.append_nil]);have HE:=Lib.hid ak;have g5:((m:Int) !=(Fr.sum p:Nat))=true:=(by rw[bne_iff_ne];omega);clear ak hs;go_wp2_with fail;refine(hr _ c w w l _ _ _ at_ 2 p.length rfl rfl HN.out (h.below aK) (by omega) hc cq (by omega) (by omega) (by omega)).mono ?_;rintro e w' ⟨rfl,rfl⟩;go_wp2_with fail;refine(hr _ c w w l _ _ _ (at_+2) 4 m rfl rfl HM.out (h.below aK) (by omega) hc cq (by omega) (by omega) (by omega)).mono ?_;rintro e w' ⟨rfl,rfl⟩;go_wp2_with fail;refine(nL _ _ w.heap.size p _ (ay.below aK) (by omega)).mono ?_;rintro e w' ⟨rfl,rfl⟩;go_wp2_with fail;rw[Exit.noGoto_ret];go_ret2;exact⟨_,by rw[HE.out,HA.out];rfl,by rw[HE.out];exact ar,aK⟩
  ·have ak:Fr.full l=done:=(by rw[HF.out,uH (by omega),List.append_nil]);have HE:=Lib.hid ak;clear ak;go_wp2;rw[Exit.noGoto_ret];go_ret2;exact⟨_,by rw[HE.out,HA.out];rfl,by rw[HE.out];exact ar,aK⟩
end Fr0
namespace Dk
open Go.Proofs.YtgblliofomgggaaGreat.Old
theorem Tryz.gg:(Tryz.prog.info? 5).map (λi=>(i.zero,i.size,i.bytes))=some (some (.int .u8 0),1,1):=by kernel_rfl
structure cV (w w':World) (q:Nat) (r:Option Nat):Prop where
 os:w'.os=w.os
 tape:w'.tape=w.tape
 output:w'.output=w.output
 size:w.heap.size<=w'.heap.size
 block:∀k,k<w.heap.size->k≠q->some k≠r->w'.heap[k]? =w.heap[k]?
def va(w:World)(r r':Option Nat):Prop:=r'=none\/r'=r\/∃k,r'=some k/\w.heap.size<=k
theorem cV.refl(w:World)(q:Nat)(r:Option Nat):cV w w q r:=⟨rfl,rfl,rfl,Nat.le_refl _,λ_ _ _ _=>rfl⟩
theorem cV.below{w w':World}{q B:Nat}{r:Option Nat}(h:cV w w' q r)(hB:B<=w.heap.size)(hq:B<=q)(hr:∀k,r=some k->B<=k):Below B w w':=
 ⟨h.os,h.tape,h.output,h.size,λk hk=>h.block k (by omega) (by omega) (λe=>by have:=hr k e.symm;omega)⟩
theorem cV.ao{w w':World}{q:Nat}{r:Option Nat}(h:Below w w w'):cV w w' q r:=⟨h.os,h.tape,h.output,h.size,λk hk _ _=>h.block k hk⟩
theorem cV.draws{w w':World}{q n:Nat}{r:Option Nat}(h:cV w w' q r):cV w (w'.drewN n) q r:=⟨h.os,h.tape,h.output,h.size,h.block⟩
theorem cV.drew{w w':World}{q:Nat}{r:Option Nat}(h:cV w w' q r):cV w w'.drew q r:=⟨h.os,h.tape,h.output,h.size,h.block⟩
theorem cV.put{w w':World}{q:Nat}{r:Option Nat}(h:cV w w' q r)(i:Nat)(u:Value):cV w (w'.setCell ⟨q,i,none⟩ u) q r:=
 ⟨h.os,h.tape,h.output,by simpa[World.setCell]using h.size,λk hk h1 h2=>(Below.heap_setCell w' ⟨q,i,none⟩ u k h1).trans (h.block k hk h1 h2)⟩
theorem cV.grown{w w1 w':World}{q:Nat}{r row:Option Nat}(h:cV w w1 q r)(hg:w1.grownBy w' row)(hr:∀k,k<w.heap.size->row=some k->r=some k):cV w w' q r:=
 ⟨hg.os.trans h.os,hg.tape.trans h.tape,hg.output.trans h.output,Nat.le_trans h.size hg.size,λk hk h1 h2=>
  (hg.block k (Nat.lt_of_lt_of_le hk h.size) (λe=>h2 (hr k hk e.symm).symm)).trans (h.block k hk h1 h2)⟩
def cY(w:World)(q base:Nat)(r:Option Nat)(l:List UInt8)(last room:Nat):Prop:=
 ∃A c,r=(Value.slice A l.length c).ownBlock/\ai w q 114 #[Y A l.length c,ag last,ag room]/\w.ownsRow base 5 1 (Y A l.length c) l.length (aA l)/\
  base<=q/\last<=l.length/\l.length<=room/\room<=1048576
theorem sl(room:Nat)(w:World)(h:room<=1048576):
 Calls Tryz.prog 19 #[ag room] w λe w'=>e=.returned (.tuple #[aj w,ag 0])/\w.alloc (.cells #[Y none 0 0,ag 0,ag room] 114)=w':=by
 go_enter Tryz.func19,Tryz.ntmps19;go_wp2;go_ret2;exact⟨rfl,rfl⟩
theorem cY.made(w:World)(base room:Nat)(a7:base<=w.heap.size)(h:room<=1048576):cY (w.alloc (.cells #[Y none 0 0,ag 0,ag room] 114)) w base none [] 0 room:=
 ⟨none,0,rfl,ai.made _ _ _,World.ownsRow_nil _ _ _ _,a7,Nat.le_refl _,Nat.zero_le _,h⟩
theorem sX(room:Int)(w:World)(h:room<0\/1048576<room):
 Calls Tryz.prog 19 #[ag room] w λe w'=>e=.returned (.tuple #[.pointer none,ag 1])/\w=w':=by
 rcases h with h | h
 ·go_enter Tryz.func19,Tryz.ntmps19;go_wp2;go_ret2;exact⟨rfl,rfl⟩
 ·have h0:¬room<0:=(by omega);go_enter Tryz.func19,Tryz.ntmps19;go_wp2;go_ret2;exact⟨rfl,rfl⟩
theorem nT(A:Option Addr)(c q base last room:Nat)(r:Option Nat)(l b:List UInt8)(w:World)(B:Nat)(hd:cY w q base r l last room)(hB:base<=w.heap.size)(hy:Bytes w B A b)(h:l.length+b.length<=room):
 Calls Tryz.prog 39 #[aj q,Y A b.length c] w λe w'=>e=.returned (ag 0)/\∃r',cY w' q base r' (l++b) last room/\cV w w' q r/\va w r r':=by
 obtain⟨i0,bM,bL,ae,aa⟩:=info_parts Tryz.gg;obtain⟨M,ch,rfl,a7,ho,hq,h1,h2,a1⟩:=hd;have ba:=a7.cell 0;have c2:=a7.cell 2;have f0:=a7.free 0;simp at ba c2;go_enter Tryz.func39,Tryz.ntmps39;go_wp2;go_step3;go_wp2
 go_quiet (fail)
 have ad:(w.drewN nq).ownsRow base 5 1 (Y M l.length ch) l.length (aA l):=ho;go_wp2_with (at_builtin;refine dg _ rfl (.tmp 24) (.tmp 25) 97 rfl base 5 i0 _ 1 Tryz.underlying97 bM bL ae aa rfl _ l.length (aA l) rfl ad B A b.length c (aA b) rfl (aU b) (hy.drewN nq) (dT b) (by unfold maxLen;omega) (by omega) hB ?_;intro A3 c3 w3 af I J;have ah:ai w3 q 114 _:=ai.grown (w:=w.drewN nq) a7 I (ai.cx a7 ho (by decide));have d0:=ah.cell 0;have f3:=ah.free 0;simp at d0);rw[Exit.noGoto_ret];go_ret;rw[<-cm]at af;refine⟨rfl,(Value.slice A3 (l.length+b.length) c3).ownBlock,⟨A3,c3,by rw[List.length_append],?_,?_,hq,by rw[List.length_append];omega,by rw[List.length_append];omega,a1⟩,?_,?_⟩
 ·rw[List.length_append];simpa using ah.put 0 (Y A3 (l.length+b.length) c3)
 ·rw[List.length_append];exact dU af (p:=⟨q,0,none⟩) (ai.cx ah af (by decide)) _
 ·exact(((cV.refl w q _).draws (n:=nq)).grown I (λk _ h=>h)).put 0 _
 ·rcases J with h | h
  ·exact .inr (.inl h)
  ·exact .inr (.inr ⟨_,h,Nat.le_refl _⟩)
theorem fo(A:Option Addr)(c B:Nat)(l:List UInt8)(w:World)(h:Bytes w B A l)(hB:B<=w.heap.size)(hm:l.length<=1048576):
 Calls Tryz.prog 69 #[Y A l.length c] w λe w'=>∃A' c',e=.returned (Y A' l.length c')/\w'.ownsRow w 5 1 (Y A' l.length c') l.length (aA l)/\Below w w w':=by
 obtain⟨i0,bM,bL,ae,aa⟩:=info_parts Tryz.gg;cases A with
 | none=>
  have hl:l=[]:=by
   rcases h with h | ⟨b,off,hA,_⟩
   ·cases l with
    | nil=>rfl
    | cons x l=>simp[aA]at h
   ·cases hA
  subst hl;have aL:=Lib.run_eql_slice_nil (P:=Tryz.prog) w 97 5 none 0 c 0 0 Tryz.underlying97;go_enter Tryz.func69,Tryz.ntmps69;go_wp2;go_ret;exact⟨none,0,rfl,World.ownsRow_nil _ _ _ _,Below.refl _ _⟩
 | some a=>
  have aL:=Lib.run_eql_slice_nil (P:=Tryz.prog) w 97 5 (some a) l.length c 0 0 Tryz.underlying97;have J:=World.ownsRow_made (e:=5) (size:=1) w #[] 0 (Nat.le_refl _) (Nat.zero_le _) rfl;go_enter Tryz.func69,Tryz.ntmps69;go_wp2_with (at_builtin;refine dg _ rfl (.tmp 5) (.tmp 6) 97 rfl w 5 i0 _ 1 Tryz.underlying97 bM bL ae aa rfl _ 0 [] rfl J B (some a) l.length c (aA l) rfl (aU l) (h.alloc hB _) (dT l) (by unfold maxLen;omega) (by omega) (by simp) ?_;intro A1 c1 w1 M ad ai);have aY:=((Below.refl w w).alloc (Nat.le_refl _) (.cells #[] 5)).trans (bC J ad (Nat.le_refl _) (by simp));simp only[Nat.zero_add,List.nil_append]at M;go_ret;exact⟨_,_,rfl,M,aY⟩
theorem o3(q base last room:Nat)(r:Option Nat)(l:List UInt8)(w:World)(hd:cY w q base r l last room):
 Calls Tryz.prog 40 #[aj q] w λe w'=>∃A' c',e=.returned (Y A' l.length c')/\w'.ownsRow w 5 1 (Y A' l.length c') l.length (aA l)/\Below w w w':=by
 obtain⟨M,ch,rfl,a7,ho,hq,h1,h2,a1⟩:=hd;have ba:=a7.cell 0;simp at ba;go_enter Tryz.func40,Tryz.ntmps40;go_wp2_with fail;refine(fo M ch w l w (a6.eu ho) (Nat.le_refl _) (by omega)).mono ?_;rintro e w1 ⟨A1,c1,rfl,ad,aY⟩;go_wp2;go_ret;exact⟨_,_,rfl,ad,aY⟩
theorem xS(q base last room:Nat)(r:Option Nat)(l:List UInt8)(w:World)(hd:cY w q base r l last room):
 Calls Tryz.prog 308 #[aj q] w λe w'=>e=.returned (ag 0)/\cY w' q base r l l.length room/\cV w w' q r:=by
 obtain⟨M,ch,rfl,a7,ho,hq,h1,h2,a1⟩:=hd;have ba:=a7.cell 0;have c1:=a7.cell 1;have f1:=a7.free 1;simp at ba c1;go_enter Tryz.func308,Tryz.ntmps308;go_wp2;go_ret;exact⟨rfl,⟨M,ch,rfl,by simpa using a7.put 1 (ag l.length),dU ho (p:=⟨q,1,none⟩) (ai.cx a7 ho (by decide)) _,hq,Nat.le_refl _,h2,a1⟩,(cV.refl w q _).put 1 _⟩
theorem nQ{w:World}{base e n m c:Nat}{A:Option Addr}{xs:List Value}(h:w.ownsRow base e 1 (Y A n c) n xs)(hm:m<=n):w.ownsRow base e 1 (Y A m c) m (xs.take m):=by
 have hl:=h.1;rcases h.2 with⟨hv,rfl⟩ | ⟨g,cap,cur,hv,hg,hh,aA,ao,hcs,M⟩
 ·injection hv with h1 h2 a1;subst h1 a1;have:m=0:=(by omega);subst this;exact⟨by simp,.inl ⟨rfl,rfl⟩⟩
 ·injection hv with h1 h2 a1;subst h1 a1;refine⟨by rw[List.length_take];omega,.inr ⟨g,c,cur,rfl,hg,hh,by omega,ao,hcs,?_⟩⟩;rw[<-M,List.take_take];congr 1;omega
theorem Bh(q base last room:Nat)(r:Option Nat)(l:List UInt8)(n:Nat)(w:World)(hd:cY w q base r l last room)(h:n<=l.length):
 Calls Tryz.prog 71 #[aj q,ag n] w λe w'=>e=.returned (ag 0)/\cY w' q base r (l.take n) n room/\cV w w' q r:=by
 obtain⟨M,ch,rfl,a7,ho,hq,h1,h2,a1⟩:=hd;have ba:=a7.cell 0;have c1:=a7.cell 1;have f0:=a7.free 0;have f1:=a7.free 1;have ar:=fR ho;simp at ba c1;go_enter Tryz.func71,Tryz.ntmps71;go_wp2;go_ret;have ak:=a7.put 0 (Y M n ch);have aY:=ak.put 1 (ag n);have I:=dU (nQ ho h) (p:=⟨q,0,none⟩) (by have:=ai.cx a7 (nQ ho h) (by decide);exact this) (Y M n ch);have ad:=dU I (p:=⟨q,1,none⟩) (ai.cx ak I (by decide)) (ag n);have hlen:(l.take n).length=n:=by rw[List.length_take];omega
 have hr:(Value.slice M l.length ch).ownBlock=(Value.slice M (l.take n).length ch).ownBlock:=by cases M<;>rfl
 refine⟨rfl,⟨M,ch,hr,by rw[hlen];simpa using aY,?_,hq,by omega,by omega,a1⟩,((cV.refl w q _).put 0 _).put 1 _⟩;rw[hlen,show aA (l.take n)=(aA l).take n by simp[aA,List.map_take]];exact ad
theorem zi(A:Option Addr)(c q base last room:Nat)(r:Option Nat)(l b:List UInt8)(w:World)(B:Nat)(hd:cY w q base r l last room)(hB:base<=w.heap.size)(I:B<=w.heap.size)(hy:Bytes w B A b)(h:b.length<=room):
 Calls Tryz.prog 199 #[aj q,Y A b.length c] w λe w'=>e=.returned (ag 0)/\∃r',cY w' q base r' b b.length room/\cV w w' q r/\va w r r':=by
 obtain⟨M,ch,rfl,a7,ho,hq,h1,h2,a1⟩:=hd;obtain⟨ba,c1,c2⟩:=a7.c3;have f0:=a7.free 0;have f1:=a7.free 1;simp at ba c1 c2;go_enter Tryz.func199,Tryz.ntmps199;go_wp2;go_step3;go_wp2_with fail;refine(fo A c B b w hy I (by omega)).mono ?_;rintro e w1 ⟨A1,c1,rfl,ad,aY⟩;have aK:=a7.below aY a7.lt;have d0:=aK.cell 0;have d1:=aK.cell 1;have g0:=aK.free 0;have g1:=aK.free 1;simp at d0 d1;go_wp2;rw[Exit.noGoto_ret];go_ret;have aG:=aK.put 0 (Y A1 b.length c1);have ah:=aG.put 1 (ag b.length);have J:=dU (dt ad hB) (p:=⟨q,0,none⟩) (ai.cx aK ad (by decide)) (Y A1 b.length c1);have a8:=dU J (p:=⟨q,1,none⟩) (ai.cx aG J (by decide)) (ag b.length);refine⟨rfl,_,⟨A1,c1,rfl,by simpa using ah,a8,hq,Nat.le_refl _,h,a1⟩,((cV.ao aY).put 0 _).put 1 _,?_⟩;cases hA:(Value.slice A1 b.length c1).ownBlock with
 | none=>exact .inl rfl
 | some k=>exact .inr (.inr ⟨k,rfl,(ad.lt k hA).1⟩)
theorem tB(q base last room:Nat)(r:Option Nat)(l:List UInt8)(aI:Int)(w:World)(hd:cY w q base r l last room)(hk: -9223372036854775808<=aI/\aI<=9223372036854775807):
 Calls Tryz.prog 151 #[aj q,ag aI] w λe w'=>e=.returned (.tuple #[])/\cY w' q base r (l.take (last+min aI.toNat (l.length-last))) (last+min aI.toNat (l.length-last)) room/\cV w w' q r:=by
 obtain⟨M,ch,rfl,a7,ho,hq,h1,h2,a1⟩:=hd;have ba:=a7.cell 0;have c1:=a7.cell 1;have f0:=a7.free 0;have f1:=a7.free 1;have ar:=fR ho;simp at ba c1;obtain⟨m,hm⟩:=am (min aI.toNat (l.length-last));have bl:last+m<=l.length:=by omega
 have em:=Lib.hid (show(if (l.length:Int)- (last:Int)<(if aI<0 then 0 else aI)then(l.length:Int)-last else(if aI<0 then 0 else aI))=(m:Int) by rw[hm];split<;>split<;>omega);rw[<-hm];clear hm;go_enter Tryz.func151,Tryz.ntmps151;go_wp2
 go_quiet (fail)
 simp only[em.out];generalize (if aI<0 then(0:Int)else aI)=kk;go_wp2
 go_region
 go_wp2
 go_end0
 have ak:ai (w.drewN nq) q 114 #[Y M l.length ch,ag last,ag room]:=a7;have aY:=ak.put 1 (ag ((last:Int)+m));have aG:=aY.put 0 (Y M (last+m) ch);have I:(w.drewN nq).ownsRow base 5 1 (Y M (last+m) ch) (last+m) ((aA l).take (last+m)):=nQ ho bl;have ad:=dU I (p:=⟨q,1,none⟩) (ai.cx ak I (by decide)) (ag ((last:Int)+m));have J:=dU ad (p:=⟨q,0,none⟩) (ai.cx aY ad (by decide)) (Y M (last+m) ch);have hlen:(l.take (last+m)).length=last+m:=by rw[List.length_take];omega
 have hr:(Value.slice M l.length ch).ownBlock=(Value.slice M (l.take (last+m)).length ch).ownBlock:=by cases M<;>rfl
 refine⟨rfl,⟨M,ch,hr,?_,?_,hq,by omega,by omega,a1⟩,((((cV.refl w q _).draws (n:=nq)).put 1 _).put 0 _).drew⟩
 ·rw[hlen];have e:((last+m:Nat):Int)=(last:Int)+m:=(by omega);rw[e];change ai (((w.drewN nq).setCell ⟨q,1,none⟩ (ag ((last:Int)+m))).setCell (aj q) (Y M (last+m) ch)) q 114 _;simpa using aG
 ·rw[hlen,show aA (l.take (last+m))=(aA l).take (last+m) by simp[aA,List.map_take]];exact J
theorem nil_append(A:Option Addr)(n c:Nat)(w:World):Calls Tryz.prog 39 #[.pointer none,Y A n c] w λe w'=>e=.returned (ag 1)/\w=w':=by
 go_enter Tryz.func39,Tryz.ntmps39;go_wp2;go_step3;go_wp2;rw[Exit.noGoto_ret];go_ret;exact⟨rfl,rfl⟩
end Dk
end Go.Proofs.YtgblliofomgggaaGreat
