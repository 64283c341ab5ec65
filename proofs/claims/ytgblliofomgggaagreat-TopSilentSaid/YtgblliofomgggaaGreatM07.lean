import Derived.Test.YtgblliofomgggaaGreatM01
import Derived.Test.YtgblliofomgggaaGreatM06
import Derived.Test.YtgblliofomgggaaGreatM02
import Derived.Test.YtgblliofomgggaaGreatM05
namespace Go.Proofs.YtgblliofomgggaaGreat
set_option maxRecDepth 100000
set_option maxHeartbeats 2000000
open Go.RowKit a7 bA
open Go.IntKind renaming i64 -> af,u64 -> ak
open Go.Value renaming int -> I,slice -> Y,pointer -> aL,agg -> aE
theorem a6.old{w:World}{S:Nat->Prop}{A:Option Addr}{xs:List Value}(h:a6 w S A xs):Old.a6 w w A xs:=by
 rcases h with h | ⟨b,off,hA,a7,_,hc⟩
 ·exact .inl h
 ·exact .inr ⟨b,off,hA,a7,hc⟩
theorem Bytes.old{w:World}{S:Nat->Prop}{A:Option Addr}{l:List UInt8}(h:Bytes w S A l):Old.Bytes w w A l:=a6.old h
def cf:dD (List UInt8):=⟨1,λw S u l=>∃A c,u=[Y A l.length c]/\Bytes w S A l/\l.length<=c,λh=>by
 obtain⟨A,c,rfl,_⟩:=h;rfl,λh v hv=>by
 obtain⟨A,c,rfl,_⟩:=h;simp only[List.mem_cons,List.not_mem_nil,or_false]at hv;rw[hv];rfl,λh g=>by
 obtain⟨A,c,rfl,h,hc⟩:=h;exact⟨A,c,rfl,h.goes g,hc⟩⟩
theorem uo(A:Option Addr)(c q base:Nat)(l p:List UInt8)(S:Nat->Prop)(w:World)(hq:base<=q)(ho:Fr0.Out w q base l)(hs:base<=w.heap.size)(hl:l.length<=1048576)(h:Bytes w S A p)(h0:0<p.length)(h1:p.length<=4000):
 Calls Tryz.prog 248 #[Y A p.length c,aj q] w λe w'=>e=.returned (ag 0)/\Fr0.Out w' q base (l++Fr.wrap p)/\Below base w w':=by
 obtain⟨i0,bM,bL,ae,aa⟩:=info_parts Fr0.Tryz.gg;have wr:=Fr0.wY A c p w h.old h0 h1;obtain⟨v,a7,J⟩:=ho;clear h h0;go_enter Tryz.func248,Tryz.ntmps248;go_wp2_with fail;refine wr.mono ?_;clear wr;rintro e w1 ⟨A1,c1,rfl,ad,b1⟩;have aY:=a7.below b1 a7.lt;have M:=aT J b1;have d0:=aY.cell 0;have f0:=aY.free 0;simp at d0;have bJ:=b1.size;have bh:(Fr.wrap p).length=6+p.length:=Fr.dC p;have aQ:l.length+(6+p.length)<=maxLen:=by unfold maxLen;omega
 go_wp2_with (at_builtin;refine ca _ rfl (.tmp 11) (.tmp 12) 97 rfl base 1 5 i0 _ 1 Tryz.underlying97 bM bL ae aa rfl (by omega) v l.length (aA l) rfl M A1 (6+p.length) c1 (aA (Fr.wrap p)) rfl (by rw[aU];omega) (Row.src (kU bh ad)).2 (dT _) aQ (by omega) (by omega) ?_;intro A4 c4 w4 I av aq;have cn:ai w4 q 97 #[v]:=ai.grown (w:=w1) aY av (ai.cx (w:=w1) aY M (by decide));have aB:=cn.cell 0;have f4:=cn.free 0;simp at aB);go_ret;have af:Below base w w4:=(b1.mono hs).trans (bC M av (Nat.le_refl _) (by omega));rw[<-cm,<-bh,<-List.length_append]at I;have hp:ai (w4.setCell (aj q) (Y A4 (l.length+(6+p.length)) c4)) q 97 #[Y A4 (l.length+(6+p.length)) c4]:=by simpa using cn.put 0 (Y A4 (l.length+(6+p.length)) c4)
 refine⟨rfl,⟨Y A4 (l.length+(6+p.length)) c4,hp,?_⟩,af.setCell hq _⟩;rw[<-bh,<-List.length_append];exact dU I (row:=some q) (λk hk e=>by
  injection hk with hk;subst hk;exact ai.cx (w:=w4) cn I (by decide) e.symm) (aR w4 q 0 _)
theorem tF{recs:List (List UInt8)}(h:∀p∈recs,p.length<=4000):((recs.map Fr.wrap).flatten).length<=4006*recs.length:=by
 have:=od (l:=recs.map Fr.wrap) (k:=4006) (λa ha=>by
  obtain⟨p,hp,rfl⟩:=List.mem_map.1 ha;rw[Fr.dC];have:=h p hp;omega)
 simpa using this
theorem lW(S:Nat->Prop)(A:Option Addr)(n c:Nat)(recs:List (List UInt8))(w:World)(aL:n=recs.length)(hm:n<=200)(h:SliceAt cf w S A recs)(hr:∀p∈recs,0<p.length/\p.length<=4000):
 Calls Tryz.prog 198 #[Y A n c] w λe w'=>∃u,e=.returned (.tuple #[u,ag 0])/\Row w' w u (recs.map Fr.wrap).flatten/\Below w w w':=by
 obtain⟨w0,ar⟩:=am (w.alloc (.cells #[aa] 97));have hC:ai w0 w 97 #[aa]:=by rw[ar];exact ai.made _ _ _
 have aU:=aV ar;have hO:Fr0.Out w0 w w []:=⟨aa,hC,World.ownsRow_nil _ _ _ _⟩;obtain⟨q,hq⟩:=am w.heap.size;have HN:=Lib.hid aL;have HR:=Lib.hid hr;have HQ:=Lib.hid hq;rw[<-hq]at hO;clear aL hr hq hC;go_enter Tryz.func198,Tryz.ntmps198;go_wp2_with fail;rw[<-ar,<-HQ.out];clear ar
 go_loopw [12] (λi_ wr=>∃i:Nat,i_=I af i/\i<=n/\Fr0.Out wr q q ((recs.take i).map Fr.wrap).flatten/\Below w w wr/\q<=wr.heap.size) (λi _=>n- (intOf i).toNat)
 case atStart=>exact⟨0,rfl,by omega,hO,aU,by rw[HQ.out];exact aU.size⟩
 case round=>
  obtain⟨i,rfl,hi,hO,a7,bc⟩:=hrel;by_cases bA:i<n
  ·have bu:i<recs.length:=(by have:=HN.out;omega);have bE:(i:Int)<(n:Int):=(by omega);have hp:=HR.out _ (List.getElem_mem bu);have a1:=tF (recs:=recs.take i) (λp hp=>(HR.out p (List.mem_of_mem_take hp)).2);rw[List.length_take]at a1;have HS:Hid (((recs.take (i+1)).map Fr.wrap).flatten=((recs.take i).map Fr.wrap).flatten++Fr.wrap recs[i]):=by
    show _=_;rw[List.take_succ_eq_append_getElem bu,List.map_append,List.flatten_append];simp
   obtain⟨b,off,u,rfl,bV,b8,bx,hcell,A2,c8,hu,h2,az⟩:=(h.below a7).at_ bu (by decide);rw[hu]at hcell;have d8:wr.cell? ⟨b,off+i,none⟩=some (Y A2 recs[i].length c8):=(by simpa[cf]using hcell 0 _ rfl);obtain⟨p,J⟩:=am (recs[i]);rw[<-J]at d8 hp h2 HS;have lf:=uo A2 c8 q q _ p S wr (Nat.le_refl _) hO bc (by omega) h2 hp.1 hp.2;clear hcell bx hu J hO;go_wp2_with fail;refine lf.mono ?_;clear lf;rintro e w1 ⟨rfl,aQ,b1⟩;rw[<-HS.out]at aQ;go_wp2
   go_round
   case rel=>exact⟨i+1,by go_num,by omega,aQ,a7.trans (b1.mono (by have:=HQ.out;omega)),Nat.le_trans bc b1.size⟩
   case measure=>simp[intOf];omega
  ·obtain rfl:i=n:=(by omega);rw[HN.out,List.take_length]at hO;obtain⟨v,ad,M⟩:=hO;have d0:wr.cell? (aj q)=some v:=(by simpa using ai.cell (w:=wr) ad 0);clear h;go_wp2;go_ret2;obtain⟨Av,cv,rfl⟩:=eH M;exact⟨_,rfl,kU rfl (dt M (by rw[HQ.out];exact Nat.le_refl _)),a7⟩
theorem aD.made{α:Type}{r:dD α}{e:TypeId}{w:World}{S:Nat->Prop}{cs:Array Value}{m:Nat}(hc:cs.size=m*r.k)(hm:m<=maxLen):aD r e (w.alloc (.cells cs e)) w S (Y (aj w) 0 m) ([]:List α):=
 ⟨[],⟨by simp,.inr ⟨_,_,_,rfl,Nat.le_refl _,heap_alloc_new w _,Nat.zero_le _,hm,hc,by simp⟩⟩,rfl,λi u a h=>by simp at h⟩
theorem om{w:World}{base n c:Nat}{A:Option Addr}{l:List UInt8}{S:Nat->Prop}(h:w.ownsRow base 5 1 (Y A n c) n (aA l))(hS:∀b,S b->b<base):Bytes w S A l:=a6.eu h hS
theorem jq(S:Nat->Prop)(A:Option Addr)(n c:Nat)(recs:List (List UInt8))(w:World)(aL:n=recs.length)(hm:n<=1000)(h:SliceAt cf w S A recs)(hr:∀p∈recs,p.length<=4000):
 Calls Tryz.prog 74 #[Y A n c] w λe w'=>∃v,e=.returned v/\aD cf 97 w' w (λb=>b<w.heap.size) v recs/\Below w w w':=by
 obtain⟨i0,bM,bL,ae,aa⟩:=info_parts Fr0.Tryz.mT;have hcs:(madeCells (Value.slice none 0 0).cells (n*i0.size)).size=n*cf.k:=by rw[size_madeCells,ae];rfl
 obtain⟨cs,aq⟩:=am (madeCells (Value.slice none 0 0).cells (n*i0.size));rw[<-aq]at hcs;have au:=Lib.hid aq;obtain⟨w0,ar⟩:=am (w.alloc (.cells cs 97));have aU:=aV ar;have hO:aD cf 97 w0 w (λb=>b<w.heap.size) (Y (aj w) 0 n) []:=by rw[ar];exact .made hcs (by unfold maxLen;omega)
 have HN:=Lib.hid aL;have HR:=Lib.hid hr;clear hcs aq aL hr;go_enter Tryz.func74,Tryz.ntmps74;go_wp2_with (at_make;refine m4 w rfl _ _ 104 rfl 97 i0 _ Tryz.underlying104 bM bL .i64 .i64 _ _ 0 n rfl rfl rfl (by first | rfl | (simp;done) | omega) (by omega) (by rw[aa];omega) (by omega) ?_;rw[<-au.out,<-ar];clear ar)
 go_loopw [3,11] (λv_ i_ wr=>∃i:Nat,i_=I af i/\i<=n/\aD cf 97 wr w (λb=>b<w.heap.size) v_ (recs.take i)/\Below w w wr) (λ_ i _=>n- (intOf i).toNat)
 case atStart=>exact⟨0,rfl,by omega,hO,aU⟩
 case round=>
  obtain⟨i,rfl,hi,O,a7⟩:=hrel;by_cases bA:i<n
  ·have bu:i<recs.length:=(by have:=HN.out;omega);have bE:(i:Int)<(n:Int):=(by omega);have hp:=HR.out _ (List.getElem_mem bu);have a4:Hid (recs.take (i+1)=recs.take i++[recs[i]]):=List.take_succ_eq_append_getElem bu;have aW:(recs.take i).length=i:=(by rw[List.length_take];omega);obtain⟨b,off,u,rfl,bV,b8,bx,hcell,A2,c8,hu,h2,az⟩:=(h.below a7).at_ bu (by decide);rw[hu]at hcell;have d8:wr.cell? ⟨b,off+i,none⟩=some (Y A2 recs[i].length c8):=(by simpa[cf]using hcell 0 _ rfl);obtain⟨p,J⟩:=am (recs[i]);rw[<-J]at d8 hp h2 a4 az;have cl:=Dk.fo A2 c8 wr p wr h2.old (Nat.le_refl _) (by omega);obtain⟨A3,n3,c3,rfl,a2,bY⟩:=O.form;have e3:n3=i:=(by rw[a2.out,aW]);subst e3;clear hcell bx hu J;go_wp2_with fail;refine cl.mono ?_;clear cl;rintro e w1 ⟨A4,c4,rfl,ad,b1⟩;have O1:=O.below b1;have bC:=(Below.refl w1 w1).alloc (Nat.le_refl _) (.cells #[Y A4 p.length c4] 97);have aI:cf.R (w1.alloc (.cells #[Y A4 p.length c4] 97)) (bm (λb=>b<w.heap.size) (Y A3 n3 c3)) [Y A4 p.length c4] p:=
    ⟨A4,c4,rfl,om (aT ad bC) (λb aG=>by
     rcases aG with aG | aG
     ·have:=a7.size;omega
     ·exact(O.lt aG).2),fR ad⟩
   go_wp2_with (at_builtin;refine a9 _ rfl (.tmp 15) (.tmp 18) 104 rfl cf w 97 i0 _ 24 Tryz.underlying104 bM bL ae aa rfl (by decide) (λb=>b<w.heap.size) (Y A3 n3 c3) (recs.take n3) rfl (O1.below bC) (aj w1) 1 [Y A4 p.length c4] p rfl (Src.made w1 _ _) aI (by rw[aW];unfold maxLen;omega) (by rw[aW];omega) (by simp;have:=a7.size;have:=b1.size;omega) ?_;intro A5 c5 w5 O5 cz gr bP);rw[aW,<-a4.out]at O5;have aQ:∀k,(Value.slice A3 n3 c3).ownBlock=some k->w.heap.size<=k:=λk hk=>(O.lt hk).1
   go_round
   case rel=>exact⟨n3+1,by go_num,by omega,O5,((a7.trans (b1.mono a7.size)).trans (bC.mono (Nat.le_trans a7.size b1.size))).grown gr (by simp;have:=a7.size;have:=b1.size;omega) aQ⟩
   case measure=>simp[intOf];omega
  ·obtain rfl:i=n:=(by omega);rw[HN.out,List.take_length]at O;clear h;go_wp2;go_ret;exact⟨_,rfl,O,a7⟩
section
section
variable {α:Type}{P:Program}(w:World)
theorem wN{ops:Array Oper}{o:Oper}{a:Act}{K:Act->World->Prop}{Q:Exit->Act->World->Prop}{E:Prop}(ae:o.guard=none)(s x:Operand)(t:TypeId)
 (ho:o.op=.call {callee:=.builtin .append,args:=#[s,x],argTypes:=#[t,t]})
 (r:dD α) (base:Nat) (e:TypeId) (i:TypeInfo) (z:Value) (bytes:Nat) (ht:P.underlying t=some (.slice e)) (hi:P.info? e=some i) (hz:i.zero=some z)
 (M:i.size=r.k) (bR:i.bytes=bytes) (bB:z.cells.size=r.k) (hk:0<r.k)
 (S:Nat->Prop) (v:Value) (l:List α) (hs:a.eval s=v) (J:aD r e w base S v l)
 (ad:Nat) (S2:Nat->Prop) (v2:Value) (l2:List α) (hx:a.eval x=v2) (h2:aD r e w ad S2 v2 l2) (aY:∀b,bm S v b->S2 b)
 (af:l.length+l2.length<=maxLen) (I:(l.length+l2.length)*bytes<=140737488355328) (av:base<=w.heap.size)
 (h:∀A' c' w',aD r e w' base S (Y A' (l.length+l2.length) c') (l++l2)->Goes (bm S v) w (bm S (Y A' (l.length+l2.length) c')) w'->w.grownBy w' v.ownBlock->((Value.slice A' (l.length+l2.length) c').ownBlock=v.ownBlock\/(Value.slice A' (l.length+l2.length) c').ownBlock=some w.heap.size)->K (a.put o.dst (Y A' (l.length+l2.length) c')) w'):
 if Region.wanted o (yielded ops a.tmps)=true then Oper.wp P o a w K Q else E:=by
 obtain⟨us,k1,k2,k3⟩:=J;obtain⟨aa,j1,j2,j3⟩:=h2;obtain⟨A,c,rfl⟩:=eH j1;have aI:∀u∈aa,∃b,r.R w (bm S v) u b:=λu hu=>by
  obtain⟨i,hi,rfl⟩:=List.getElem_of_mem hu;exact⟨l2[i]'(by omega),r.weak (j3 i _ _ (List.getElem?_eq_getElem hi) (List.getElem?_eq_getElem (by omega))) (λb a7=>.inl (aY b a7))⟩
 refine ej w ae s x t ho base r.k e i z bytes ht hi hz M bR bB hk v l.length us.flatten hs k1 A l2.length c aa.flatten hx (by rw[cd aa (λu hu=>by obtain⟨b,a7⟩:=aI u hu;exact r.len a7),j2]) (a6.src (a6.eu (S:=λ_=>False) j1 (λ_ h=>h.elim))) (λu hu=>by
  obtain⟨y,hy,hu⟩:=List.mem_flatten.1 hu;obtain⟨b,a7⟩:=aI y hy;exact r.one a7 u hu) af I av ?_
 intro A' c' w' h4 gr ah;have hG:Goes (bm S v) w (bm S (Y A' (l.length+l2.length) c')) w':=⟨gr.os,gr.tape,gr.output,gr.size,λk hk aL=>gr.block k hk (λe=>aL (.inr e.symm)),λk hk hs=>hs.elim .inl (λe=>by
  rcases ah with ah | ah
  ·exact .inr (ah.symm.trans e)
  ·rw[ah]at e;injection e with e;omega)⟩
 refine h A' c' w' ⟨us++aa,by rw[List.length_append,List.flatten_append];exact h4,by simp[k2,j2],λj u' a' hu ha=>?_⟩ hG gr ah;by_cases hj:j<us.length
 ·rw[List.getElem?_append_left hj]at hu;rw[List.getElem?_append_left (by omega)]at ha;exact r.goes (k3 j u' a' hu ha) hG
 ·rw[List.getElem?_append_right (by omega)]at hu;rw[List.getElem?_append_right (by omega),<-k2]at ha;exact r.goes (r.weak (j3 _ u' a' hu ha) (λb a7=>.inl (aY b a7))) hG
end
def iR(S F:Nat->Prop):Nat->Prop:=λb=>S b\/F b
theorem Goes.union{F F' S:Nat->Prop}{w w':World}(g:Goes F w F' w')(hF:∀b,F b->S b):Goes S w (iR S F') w':=
 ⟨g.os,g.tape,g.output,g.size,λb a7 aL=>g.aI b a7 (λe=>aL (hF b e)),λb a7 hs=>hs.elim id (λe=>hF b (g.only b a7 e))⟩
theorem hK{w w':World}{q:Nat}{r r':Option Nat}(h:Dk.cV w w' q r)(hl:Dk.va w r r'):Goes (λb=>b=q\/r=some b) w (λb=>b=q\/r'=some b) w':=
 ⟨h.os,h.tape,h.output,h.size,λb a7 aL=>h.block b a7 (λe=>aL (.inl e)) (λe=>aL (.inr e.symm)),λb a7 hs=>by
  rcases hs with hs | hs
  ·exact .inl hs
  ·rcases hl with hl | hl | ⟨k,hk,aq⟩
   ·rw[hl]at hs;cases hs
   ·exact .inr (hl▸hs)
   ·rw[hk]at hs;injection hs with hs;omega⟩
structure cc where
 g:Nat
 q:Nat
 rr:Option Nat
 dr:Option Nat
def cc.bE(L:cc):Nat->Prop:=λb=>b=L.g\/b=L.q\/L.rr=some b\/L.dr=some b
structure b8 (w:World) (S:Nat->Prop) (L:cc) (recs:List (List UInt8)) (last room:Nat):Prop where
 ex:∃v,ai w L.g 159 #[aj L.q,v]/\L.rr=v.ownBlock/\aD cf 97 w 0 S v recs
 eN:Dk.cY w L.q 0 L.dr (recs.map Fr.wrap).flatten last room
 small:∀p∈recs,0<p.length/\p.length<=4000
 sub:∀b,L.bE b->S b
theorem cF{w w':World}{q:Nat}{r:Option Nat}{l:List UInt8}{last room:Nat}{F F':Nat->Prop}(h:Dk.cY w q 0 r l last room)(g:Goes F w F' w')(h1:¬F q)(h2:∀b,r=some b->¬F b):Dk.cY w' q 0 r l last room:=by
 obtain⟨A,c,hr,a7,ho,a1⟩:=h;exact⟨A,c,hr,(g.aI q (ai.lt (w:=w) a7) h1).trans a7,cS ho g (λb a7=>h2 b (hr.trans a7)),a1⟩
theorem b8.goes{w w':World}{S F F':Nat->Prop}{L:cc}{recs:List (List UInt8)}{last room:Nat}(h:b8 w S L recs last room)(g:Goes F w F' w')(hF:∀b,F b->S b)(aL:∀b,L.bE b->¬F b):b8 w' (iR S F') L recs last room:=by
 obtain⟨v,h1,h2,a1⟩:=h.ex;have I:=g.union hF;refine⟨⟨v,h1.goes g (aL _ (.inl rfl)),h2,?_⟩,cF h.eN g (aL _ (.inr (.inl rfl))) (λb a7=>aL b (.inr (.inr (.inr a7)))),h.small,λb a7=>.inl (h.sub b a7)⟩;obtain⟨us,k1,k2,k3⟩:=a1;exact⟨us,cS k1 g (λb a7=>aL b (.inr (.inr (.inl (h2.trans a7))))),k2,λi u a hu ha=>cf.goes (k3 i u a hu ha) (I.plus v)⟩
theorem kV{w:World}{base e k n base' e' k' m:Nat}{v u:Value}{xs ys:List Value}(h:w.ownsRow base e k v n xs)(h2:w.ownsRow base' e' k' u m ys)(ay:e≠e'):v.ownBlock=u.ownBlock->v.ownBlock≠none->False:=λhe aL=>by
 rcases h.2 with⟨rfl,_⟩ | ⟨b,cap,cur,rfl,hg,hh,rest⟩
 ·exact aL rfl
 ·exact ai.cx (cs:=cur) hh h2 (Ne.symm ay) he
theorem b8.below{w w':World}{S:Nat->Prop}{L:cc}{recs:List (List UInt8)}{last room:Nat}(h:b8 w S L recs last room)(a7:Below w w w'):b8 w' S L recs last room:=by
 obtain⟨v,h1,h2,a1⟩:=h.ex;exact⟨⟨v,h1.below a7 h1.lt,h2,a1.below a7⟩,cF h.eN (F:=λ_=>False) (Goes.ao a7 _) (λh=>h) (λ_ _ h=>h),h.small,h.sub⟩
structure CF (g q:Nat) (rr dr:Option Nat):Prop where
 gq:g≠q
 gr:rr≠some g
 gd:dr≠some g
 qr:rr≠some q
 qd:dr≠some q
 rd:∀b,rr=some b->dr≠some b
theorem b8.apart{w:World}{S:Nat->Prop}{L:cc}{recs:List (List UInt8)}{last room:Nat}(h:b8 w S L recs last room):CF L.g L.q L.rr L.dr:=by
 obtain⟨v,hg,M,O⟩:=h.ex;obtain⟨A,c,Y,aq,ad,_⟩:=h.eN;have af:ai w L.q 114 _:=aq;refine⟨λe=>?_,λe=>O.ne hg (by decide) (M.symm.trans e),λe=>hg.cx ad (by decide) (e.symm.trans Y),λe=>O.ne af (by decide) (M.symm.trans e),λe=>af.cx ad (by decide) (e.symm.trans Y),λb e1 a5=>?_⟩
 ·have h1:w.heap[L.g]? =_:=hg;rw[e]at h1;have h2:w.heap[L.q]? =_:=aq;rw[h1]at h2;injection h2 with h2;injection h2 with _ h2;exact absurd h2 (by decide)
 ·obtain⟨us,k1,_⟩:=O;exact kV k1 ad (by decide) ((M.symm.trans e1).trans (a5.symm.trans Y)) (by rw[<-M,e1];exact λe=>by cases e)
theorem SliceAt.fX{α:Type}{r:dD α}{w:World}{S:Nat->Prop}{A:Option Addr}{l:List α}(h:SliceAt r w S A l):SliceAt r w.drew S A l:=h.goes ⟨rfl,rfl,rfl,Nat.le_refl _,λ_ _ _=>rfl,λ_ _ h=>h⟩
theorem k5:∀ (recs:List (List UInt8)),recs.length<=((recs.map Fr.wrap).flatten).length
 | []=>by simp
 | p::l=>by
  have:=k5 l;rw[List.map_cons,List.flatten_cons,List.length_append,Fr.dC,List.length_cons];omega
theorem zF{S:Nat->Prop}{g q:Nat}{rr dr aS:Option Nat}{recs ps:List (List UInt8)}{last room:Nat}{w w1 w2 w3 w4:World}{v v':Value}{fp:List UInt8}
 (hL:b8 w1 S ⟨g,q,rr,dr⟩ recs last room) (M:rr=v.ownBlock) (b1:Below w w w1) (gD:Goes (λb=>b=q\/dr=some b) w1 (λb=>b=q\/aS=some b) w2)
 (hD:Dk.cY w2 q 0 aS ((recs.map Fr.wrap).flatten++fp) last room) (ak:fp=(ps.map Fr.wrap).flatten) (b3:Below w2 w2 w3) (I:ai w3 g 159 #[aj q,v])
 (O3:aD cf 97 w3 0 (iR S (λb=>b=q\/aS=some b)) v recs) (O4:aD cf 97 w4 0 (iR S (λb=>b=q\/aS=some b)) v' (recs++ps)) (gr:w3.grownBy w4 v.ownBlock) (aA:v'.ownBlock=v.ownBlock\/v'.ownBlock=some w3.heap.size)
 (hp:∀p∈ps,0<p.length/\p.length<=4000):
 b8 (w4.setCell ⟨g,1,none⟩ v') (iR S (cc.bE ⟨g,q,v'.ownBlock,aS⟩)) ⟨g,q,v'.ownBlock,aS⟩ (recs++ps) last room/\Goes (cc.bE ⟨g,q,rr,dr⟩) w (cc.bE ⟨g,q,v'.ownBlock,aS⟩) (w4.setCell ⟨g,1,none⟩ v'):=by
 have au:v.ownBlock≠some g:=O3.ne I (by decide);have av:ai w4 g 159 #[aj q,v]:=I.grown gr (λe=>au e.symm);have ag:v'.ownBlock≠some g:=O4.ne av (by decide);have aa:Dk.cY w3 q 0 aS ((recs.map Fr.wrap).flatten++fp) last room:=cF hD (F:=λ_=>False) (Goes.ao b3 _) (λh=>h) (λ_ _ h=>h);have ap:g≠q/\aS≠some g/\v.ownBlock≠some q/\∀b,v.ownBlock=some b->aS≠some b:=by
  obtain⟨A,c,Y,aq,ad,_⟩:=aa;have af:ai w3 q 114 _:=aq;refine⟨λe=>?_,λe=>I.cx ad (by decide) (e.symm.trans Y),O3.ne af (by decide),λb e1 a5=>?_⟩
  ·have h1:w3.heap[g]? =_:=I;rw[e]at h1;have h2:w3.heap[q]? =_:=aq;rw[h1]at h2;injection h2 with h2;injection h2 with _ h2;exact absurd h2 (by decide)
  ·obtain⟨us,k1,_⟩:=O3;exact kV k1 ad (by decide) (e1.trans (a5.symm.trans Y)) (by rw[e1];exact λe=>by cases e)
 obtain⟨ax,ae,am,ar⟩:=ap;have J:Goes (λb=>v.ownBlock=some b) w3 (λb=>v'.ownBlock=some b) w4:=⟨gr.os,gr.tape,gr.output,gr.size,λb a7 aL=>gr.block b a7 (λe=>aL e.symm),λb a7 hs=>by
  rcases aA with h | h
  ·exact h.symm.trans hs
  ·rw[h]at hs;injection hs with hs;omega⟩
 have ah:=cF aa J am (λb a7 e=>ar b e a7);have gz:Goes (λb=>b=g) w4 (λb=>b=g) (w4.setCell ⟨g,1,none⟩ v'):=aJ (aR w4 g 1 v') rfl;have aw:=cF ah gz (λe=>ax e.symm) (λb a7 e=>ae (by rw[a7,e]));have hS:∀b,cc.bE ⟨g,q,rr,dr⟩ b->S b:=hL.sub;refine⟨⟨⟨v',by simpa using av.put 1 v',rfl,?_⟩,?_,λp aY=>?_,λb a7=>.inr a7⟩,?_⟩
 ·obtain⟨us,k1,k2,k3⟩:=O4;have gp:Goes (bm (iR S (λb=>b=q\/aS=some b)) v') w4 (bm (iR S (cc.bE ⟨g,q,v'.ownBlock,aS⟩)) v') (w4.setCell ⟨g,1,none⟩ v'):=
   ⟨gz.os,gz.tape,gz.output,gz.size,λb a7 aL=>gz.aI b a7 (λe=>aL (.inl (.inl (e▸hS g (.inl rfl))))),λb _ hs=>by
    rcases hs with(hs | hs | hs | hs | hs) | hs
    ·exact .inl (.inl hs)
    ·exact .inl (.inl (hs▸hS g (.inl rfl)))
    ·exact .inl (.inr (.inl hs))
    ·exact .inr hs
    ·exact .inl (.inr (.inr hs))
    ·exact .inr hs⟩
  exact⟨us,cS k1 gz (λb a7 e=>ag (by rw[a7,show b=g from e])),k2,λi u a hu ha=>cf.goes (k3 i u a hu ha) gp⟩
 ·rw[List.map_append,List.flatten_append,<-ak];exact aw
 ·rcases List.mem_append.1 aY with h | h
  ·exact hL.small p h
  ·exact hp p h
 ·have e1:Goes (cc.bE ⟨g,q,rr,dr⟩) w1 (cc.bE ⟨g,q,rr,aS⟩) w2:=⟨gD.os,gD.tape,gD.output,gD.size,λb a7 aL=>gD.aI b a7 (λe=>aL (e.elim (λe=>.inr (.inl e)) (λe=>.inr (.inr (.inr e))))),λb a7 hs=>by
   rcases hs with hs | hs | hs | hs
   ·exact .inl hs
   ·exact .inr (.inl hs)
   ·exact .inr (.inr (.inl hs))
   ·rcases gD.only b a7 (.inr hs)with h | h
    ·exact .inr (.inl h)
    ·exact .inr (.inr (.inr h))⟩
  have a5:Goes (cc.bE ⟨g,q,rr,aS⟩) w3 (cc.bE ⟨g,q,v'.ownBlock,aS⟩) w4:=⟨J.os,J.tape,J.output,J.size,λb a7 aL=>J.aI b a7 (λe=>aL (.inr (.inr (.inl (M.trans e))))),λb a7 hs=>by
   rcases hs with hs | hs | hs | hs
   ·exact .inl hs
   ·exact .inr (.inl hs)
   ·exact .inr (.inr (.inl (M.trans (J.only b a7 hs))))
   ·exact .inr (.inr (.inr hs))⟩
  exact(Goes.ao b1 _).trans (e1.trans ((Goes.ao b3 _).trans (a5.trans (aJ (aR w4 g 1 v') (.inl rfl)))))
theorem te(S:Nat->Prop)(g q:Nat)(rr dr:Option Nat)(recs ps:List (List UInt8))(last room:Nat)(A:Option Addr)(n c:Nat)(w:World)(hL:b8 w S ⟨g,q,rr,dr⟩ recs last room)(hS:mF w S)(aL:n=ps.length)(hm:n<=100)(h:SliceAt cf w S A ps)(hp:∀p∈ps,0<p.length/\p.length<=4000)
 (aX:((recs++ps).map Fr.wrap).flatten.length<=room):
 Calls Tryz.prog 307 #[aj g,Y A n c] w λe w'=>e=.returned (ag 0)/\∃a3 aS,b8 w' (iR S (cc.bE ⟨g,q,a3,aS⟩)) ⟨g,q,a3,aS⟩ (recs++ps) last room/\Goes (cc.bE ⟨g,q,rr,dr⟩) w (cc.bE ⟨g,q,a3,aS⟩) w':=by
 obtain⟨i0,bM,bL,ae,aa⟩:=info_parts Fr0.Tryz.mT;have fr:=lW S A n c ps w aL (by omega) h hp;obtain⟨fp,ak⟩:=am ((ps.map Fr.wrap).flatten);have ax:((recs.map Fr.wrap).flatten).length+fp.length<=room:=by
  rw[ak,<-List.length_append,<-List.flatten_append,<-List.map_append];exact aX
 rw[<-ak]at fr;have HH:=lv hL hS aL h hp ak;have aw:=Lib.hid ax;clear hL hS aL h hp aX ak ax;go_enter Tryz.func307,Tryz.ntmps307;go_wp2_with fail;refine fr.mono ?_;clear fr;rintro e w1 ⟨u1,rfl,r1,b1⟩;have L1:=HH.out.1.below b1;obtain⟨v,aN,M,O1⟩:=L1.ex;have af:=L1.eN;simp only at aN M af;obtain⟨A1,m1,c1,rfl,aK,bU⟩:=r1.open_;have ap:=Dk.nT A1 c1 q 0 last room dr _ fp w1 w1 af (Nat.zero_le _) (Bytes.old (r1.bytes (S:=λ_=>False) (λ_ h=>h.elim))) aw.out;rw[aK.out]at ap;have ba:=aN.cell 0;simp at ba;have aE:=Lib.hid af;have ao:=fm L1 M r1;clear af L1 M r1;go_wp2_with fail;refine ap.mono ?_;clear ap;rintro e w2 ⟨rfl,aS,au,ah,bA⟩;have gD:=hK ah bA;have HA:=Lib.hid (ao.out.1.apart);have aF:=aN.goes gD (λh=>h.elim (λe=>HA.out.gq e) (λe=>HA.out.gd e));have ay:=gD.union (S:=S) (λb a7=>ao.out.1.sub b (a7.elim (λe=>.inr (.inl e)) (λe=>.inr (.inr (.inr e)))));have O2:aD cf 97 w2 0 (iR S (λb=>b=q\/aS=some b)) v recs:=by
  obtain⟨us,k1,k2,k3⟩:=O1;refine⟨us,cS k1 gD (λb a7=>?_),k2,λi u a hu ha=>cf.goes (k3 i u a hu ha) (ay.plus v)⟩;have aG:rr=some b:=ao.out.2.1.trans a7;rintro(e | e)
  ·exact HA.out.qr (by rw[aG,e])
  ·exact HA.out.rd b aG e
 have h2:=(HH.out.2.2.2.1.below b1).goes ay;have cp:=jq _ A n c ps w2.drew HH.out.2.2.1 (by omega) (h2.fX) (λp hp=>(HH.out.2.2.2.2.1 p hp).2);have aY:∀b,bm (iR S (λb=>b=q\/aS=some b)) v b->b<w2.heap.size:=λb a7=>by
  rcases a7 with(a7 | a7) | a7
  ·have:=HH.out.2.1 b a7;have:=b1.size;have:=gD.size;omega
  ·rcases a7 with a7 | a7
   ·obtain⟨_,_,_,aq,_⟩:=au;have:=ai.lt (w:=w2) aq;omega
   ·obtain⟨_,_,e,_,ho,_⟩:=au;exact(ho.lt b (e.symm.trans a7)).2
  ·exact(O2.lt a7).2
 have hlen:recs.length+ps.length<=1048576+100:=by
  have:=k5 recs;have a1:=aw.out;obtain⟨_,_,_,_,_,_,_,_,h4⟩:=au;have:=HH.out.2.2.1;omega
 have ar:=Lib.hid hlen;have aB:=Lib.hid aY;have y1:=aF.cell 1;simp at y1;clear hlen aY h2;go_wp2_with fail;refine wp_region_held_drew (S:=λ_=>True) (by kernel_rfl) trivial (λJ=>?_);refine tk 0 J ?_;refine tk 1 J ?_;refine tk 2 J ?_;refine tk 3 J ?_;refine tk 5 J ?_;refine wpAnyH_ready (rs:=[4,6]) (by kernel_rfl) (by simp) (AllReadyH.cons (by simp only[List.getElem?_toArray,List.getElem?_cons_succ,List.getElem?_cons_zero];rfl) (λK ad=>?_) (AllReadyH.cons (by simp only[List.getElem?_toArray,List.getElem?_cons_succ,List.getElem?_cons_zero];rfl) (λK ad=>?_) AllReadyH.nil))
 focus
  clear J;go_simp;refine ad.out _ _ trivial (λJ=>?_);clear ad K;refine aP 6 (λK ad=>?_);clear J;go_simp;refine cp.mono ?_;clear cp;rintro e w3 ⟨v3,rfl,O3,b3⟩;have b3:=a8 b3;have I:=aF.below b3 aF.lt;have az:=O2.below b3;have x1:=I.cell 1;simp at x1
  try dsimp only
 rotate_left
 focus
  clear J;go_simp;refine cp.mono ?_;clear cp;rintro e w3 ⟨v3,rfl,O3,b3⟩;have b3:=a8 b3;have I:=aF.below b3 aF.lt;have az:=O2.below b3;have x1:=I.cell 1;simp at x1
  try dsimp only
  refine ad.out _ _ trivial (λJ=>?_);clear ad K;refine aP 4 (λK ad=>?_);clear J;go_simp
 all_goals
  refine ad.out _ _ (trivial) (λJ=>?_);clear ad K;refine aP 7 (λK ad=>?_);clear J;refine wN _ rfl (.tmp 31) (.tmp 33) 104 rfl cf 0 97 i0 _ 24 Tryz.underlying104 bM bL ae aa rfl (by decide) (iR S (λb=>b=q\/aS=some b)) v recs (by rfl) az w2 (λb=>b<w2.heap.size) v3 ps (by rfl) O3 aB.out (by have:=ar.out;unfold maxLen;omega) (by have:=ar.out;omega) (Nat.zero_le _) ?_;intro A4 c4 w4 O4 g4 aC aA;have av:ai w4 g 159 _:=I.grown aC (λe=>(az.ne I (by decide)) e.symm);have bi:=av.cell 1;have aH:=av.free 1;simp at bi;refine ad.out _ _ (trivial) (λJ=>?_);clear ad K;refine tk 8 J ?_;refine tk 9 J ?_;refine aP 10 (λK ad=>?_);clear J;go_simp;refine ad.out _ _ (trivial) (λJ=>?_);clear ad K;refine cB ?_ _;go_wp2;go_ret;exact⟨rfl,_,_,zF ao.out.1 ao.out.2.1 b1 gD au HH.out.2.2.2.2.2 b3 I az O4 aC aA HH.out.2.2.2.2.1⟩
theorem b8.qz{w w':World}{S:Nat->Prop}{L:cc}{recs:List (List UInt8)}{last J room I:Nat}(h:b8 w S L recs last room)(hm:Dk.cV w w' L.q L.dr)(hd:Dk.cY w' L.q 0 L.dr (recs.map Fr.wrap).flatten J I):
 b8 w' S L recs J I/\Goes L.bE w L.bE w':=by
 have ap:=h.apart;have gD:=hK hm (.inr (.inl rfl));have M:∀b,(b=L.q\/L.dr=some b)->S b:=λb a7=>h.sub b (a7.elim (λe=>.inr (.inl e)) (λe=>.inr (.inr (.inr e))));obtain⟨v,h1,h2,a1⟩:=h.ex;refine⟨⟨⟨v,h1.goes gD (λh=>h.elim (λe=>ap.gq e) (λe=>ap.gd e)),h2,?_⟩,hd,h.small,h.sub⟩,?_⟩
 ·obtain⟨us,k1,k2,k3⟩:=a1;refine⟨us,cS k1 gD (λb a7=>?_),k2,λi u a hu ha=>cf.weak (cf.goes (k3 i u a hu ha) ((gD.union M).plus v)) (λb a7=>a7.elim (λe=>.inl (.inl e)) .inr)⟩;have aG:=h2.trans a7;rintro(e | e)
  ·exact ap.qr (by rw[aG,e])
  ·exact ap.rd b aG e
 ·exact⟨gD.os,gD.tape,gD.output,gD.size,λb a7 aL=>gD.aI b a7 (λe=>aL (e.elim (λe=>.inr (.inl e)) (λe=>.inr (.inr (.inr e))))),λ_ _ hs=>hs⟩
theorem nP(S:Nat->Prop)(g q:Nat)(rr dr:Option Nat)(recs ps:List (List UInt8))(last room:Nat)(A:Option Addr)(n c:Nat)(w:World)(hL:b8 w S ⟨g,q,rr,dr⟩ recs last room)(hS:mF w S)(aL:n=ps.length)(hm:n<=100)(h:SliceAt cf w S A ps)(hp:∀p∈ps,0<p.length/\p.length<=4000)
 (aX:((recs++ps).map Fr.wrap).flatten.length<=room):
 Calls Tryz.prog 277 #[aj g,Y A n c] w λe w'=>e=.returned (ag 0)/\∃a3 aS,b8 w' (iR S (cc.bE ⟨g,q,a3,aS⟩)) ⟨g,q,a3,aS⟩ (recs++ps) ((recs++ps).map Fr.wrap).flatten.length room/\Goes (cc.bE ⟨g,q,rr,dr⟩) w (cc.bE ⟨g,q,a3,aS⟩) w':=by
 have ap:=te S g q rr dr recs ps last room A n c w hL hS aL hm h hp aX;clear hL hS aL h hp aX;go_enter Tryz.func277,Tryz.ntmps277;go_wp2_with fail;refine ap.mono ?_;clear ap;rintro e w1 ⟨rfl,a3,aS,L1,g1⟩;have J:=Dk.xS _ _ _ _ _ _ w1 L1.eN;obtain⟨v,aN,M,O1⟩:=L1.ex;have ba:=aN.cell 0;simp at ba;have HL:=di L1 g1;clear L1 g1 aN M O1;go_wp2_with fail;refine J.mono ?_;clear J;rintro e w2 ⟨rfl,hD,ah⟩;have h2:=HL.out.1.qz ah hD;go_wp2;go_ret;exact⟨rfl,_,_,h2.1,HL.out.2.trans h2.2⟩
theorem kC(S:Nat->Prop)(L:cc)(recs:List (List UInt8))(last room:Nat)(w:World)(hL:b8 w S L recs last room)(hm:recs.length<=1000):
 Calls Tryz.prog 43 #[aj L.g] w λe w'=>∃v,e=.returned v/\aD cf 97 w' w (λb=>b<w.heap.size) v recs/\Below w w w':=by
 obtain⟨v,hg,M,O⟩:=hL.ex;obtain⟨A,n,c,rfl,aL,hc⟩:=O.form;have cp:=jq (λ_=>False) A n c recs w aL.out (by have:=aL.out;omega) (O.slice (λ_ h=>h.elim) (λ_ h=>h.elim)) (λp hp=>(hL.small p hp).2);have c1:=hg.cell 1;simp at c1;clear hL M O;go_enter Tryz.func43,Tryz.ntmps43;go_wp2_with fail;refine cp.mono ?_;clear cp;rintro e w1 ⟨v1,rfl,O1,b1⟩;go_wp2;go_ret;exact⟨_,rfl,O1,b1⟩
theorem zN{S:Nat->Prop}{g q:Nat}{rr dr aS:Option Nat}{ps:List (List UInt8)}{J room:Nat}{w w1 w2 w3:World}{v v':Value}
 (hS:mF w S) (b1:Below w w w1) (gD:Goes (λb=>b=q\/dr=some b) w1 (λb=>b=q\/aS=some b) w2)
 (hD:Dk.cY w2 q 0 aS (ps.map Fr.wrap).flatten J room) (aF:ai w2 g 159 #[aj q,v]) (b3:Below w2 w2 w3)
 (O3:aD cf 97 w3 w2 (λb=>b<w2.heap.size) v' ps) (hp:∀p∈ps,0<p.length/\p.length<=4000):
 b8 (w3.setCell ⟨g,1,none⟩ v') (iR S (cc.bE ⟨g,q,v'.ownBlock,aS⟩)) ⟨g,q,v'.ownBlock,aS⟩ ps J room/\Goes (cc.bE ⟨g,q,rr,dr⟩) w (cc.bE ⟨g,q,v'.ownBlock,aS⟩) (w3.setCell ⟨g,1,none⟩ v'):=by
 have I:=aF.below b3 aF.lt;have ag:v'.ownBlock≠some g:=O3.ne I (by decide);have aa:Dk.cY w3 q 0 aS (ps.map Fr.wrap).flatten J room:=cF hD (F:=λ_=>False) (Goes.ao b3 _) (λh=>h) (λ_ _ h=>h);have bA:∀b,(b=q\/aS=some b)->b<w2.heap.size:=λb a7=>by
  obtain⟨A,c,Y,aq,ad,_⟩:=hD;rcases a7 with a7 | a7
  ·have:=ai.lt (w:=w2) aq;omega
  ·exact(ad.lt b (Y.symm.trans a7)).2
 have ap:g≠q/\aS≠some g:=by
  obtain⟨A,c,Y,aq,ad,_⟩:=aa;refine⟨λe=>?_,λe=>I.cx ad (by decide) (e.symm.trans Y)⟩;have h1:w3.heap[g]? =_:=I;rw[e]at h1;have h2:w3.heap[q]? =_:=aq;rw[h1]at h2;injection h2 with h2;injection h2 with _ h2;exact absurd h2 (by decide)
 have gz:Goes (λb=>b=g) w3 (λb=>b=g) (w3.setCell ⟨g,1,none⟩ v'):=aJ (aR w3 g 1 v') rfl;have aw:=cF aa gz (λe=>ap.1 e.symm) (λb a7 e=>ap.2 (by rw[a7,e]));have az:∀b,S b->b<w2.heap.size:=λb a7=>by
  have:=hS b a7;have:=b1.size;have:=gD.size;omega
 refine⟨⟨⟨v',by simpa using I.put 1 v',rfl,?_⟩,aw,hp,λb a7=>.inr a7⟩,?_⟩
 ·obtain⟨us,k1,k2,k3⟩:=O3.mono (base':=0) (Nat.zero_le _);have gp:Goes (bm (λb=>b<w2.heap.size) v') w3 (bm (iR S (cc.bE ⟨g,q,v'.ownBlock,aS⟩)) v') (w3.setCell ⟨g,1,none⟩ v'):=
   ⟨gz.os,gz.tape,gz.output,gz.size,λb a7 aL=>gz.aI b a7 (λe=>aL (.inl (by have:=aF.lt;have e:b=g:=e;omega))),λb _ hs=>by
    rcases hs with(hs | hs | hs | hs | hs) | hs
    ·exact .inl (az b hs)
    ·exact .inl (by have:=aF.lt;have e:b=g:=hs;omega)
    ·exact .inl (bA b (.inl hs))
    ·exact .inr hs
    ·exact .inl (bA b (.inr hs))
    ·exact .inr hs⟩
  exact⟨us,cS k1 gz (λb a7 e=>ag (by rw[a7,show b=g from e])),k2,λi u a hu ha=>cf.goes (k3 i u a hu ha) gp⟩
 ·have e1:Goes (cc.bE ⟨g,q,rr,dr⟩) w1 (cc.bE ⟨g,q,v'.ownBlock,aS⟩) w2:=⟨gD.os,gD.tape,gD.output,gD.size,λb a7 aL=>gD.aI b a7 (λe=>aL (e.elim (λe=>.inr (.inl e)) (λe=>.inr (.inr (.inr e))))),λb a7 hs=>by
   rcases hs with hs | hs | hs | hs
   ·exact .inl hs
   ·exact .inr (.inl hs)
   ·have:=(O3.lt hs).1;have:=gD.size;omega
   ·rcases gD.only b a7 (.inr hs)with h | h
    ·exact .inr (.inl h)
    ·exact .inr (.inr (.inr h))⟩
  exact(Goes.ao b1 _).trans (e1.trans ((Goes.ao b3 _).trans (aJ (aR w3 g 1 v') (.inl rfl))))
theorem qg(S:Nat->Prop)(g q:Nat)(rr dr:Option Nat)(recs ps:List (List UInt8))(last room:Nat)(A:Option Addr)(n c:Nat)(w:World)(hL:b8 w S ⟨g,q,rr,dr⟩ recs last room)(hS:mF w S)(aL:n=ps.length)(hm:n<=100)(h:SliceAt cf w S A ps)(hp:∀p∈ps,0<p.length/\p.length<=4000)
 (aX:(ps.map Fr.wrap).flatten.length<=room):
 Calls Tryz.prog 158 #[aj g,Y A n c] w λe w'=>e=.returned (ag 0)/\∃a3 aS,b8 w' (iR S (cc.bE ⟨g,q,a3,aS⟩)) ⟨g,q,a3,aS⟩ ps (ps.map Fr.wrap).flatten.length room/\Goes (cc.bE ⟨g,q,rr,dr⟩) w (cc.bE ⟨g,q,a3,aS⟩) w':=by
 have fr:=lW S A n c ps w aL (by omega) h hp;obtain⟨fp,ak⟩:=am ((ps.map Fr.wrap).flatten);rw[<-ak]at fr aX ⊢;have HH:=lv hL hS aL h hp ak;have aw:=Lib.hid aX;clear hL hS aL h hp aX ak;go_enter Tryz.func158,Tryz.ntmps158;go_wp2_with fail;refine fr.mono ?_;clear fr;rintro e w1 ⟨u1,rfl,r1,b1⟩;have L1:=HH.out.1.below b1;obtain⟨v,aN,M,O1⟩:=L1.ex;have af:=L1.eN;simp only at aN M af;obtain⟨A1,m1,c1,rfl,aK,bU⟩:=r1.open_;have ap:=Dk.zi A1 c1 q 0 last room dr _ fp w1 w1 af (Nat.zero_le _) (Nat.le_refl _) (Bytes.old (r1.bytes (S:=λ_=>False) (λ_ h=>h.elim))) aw.out;rw[aK.out]at ap;have ba:=aN.cell 0;simp at ba;have ao:=Lib.hid L1;clear af L1 M r1;go_wp2_with fail;refine ap.mono ?_;clear ap;rintro e w2 ⟨rfl,aS,au,ah,bA⟩;have gD:=hK ah bA;have HA:=Lib.hid ao.out.apart;have aF:=aN.goes gD (λh=>h.elim (λe=>HA.out.gq e) (λe=>HA.out.gd e));have ay:=gD.union (S:=S) (λb a7=>ao.out.sub b (a7.elim (λe=>.inr (.inl e)) (λe=>.inr (.inr (.inr e)))));have h2:=(HH.out.2.2.2.1.below b1).goes ay;have cp:=jq _ A n c ps w2 HH.out.2.2.1 (by omega) h2 (λp hp=>(HH.out.2.2.2.2.1 p hp).2);have J:=di au gD;clear h2 au ay ah bA gD O1;go_wp2_with fail;refine cp.mono ?_;clear cp;rintro e w3 ⟨v3,rfl,O3,b3⟩;obtain⟨A3,n3,c3,rfl,a2,bY⟩:=O3.form;have I:=aF.below b3 aF.lt;have x1:=I.cell 1;have xf:=I.free 1;simp at x1;go_wp2;go_ret;have hD:=J.out.1;rw[<-aK.out,HH.out.2.2.2.2.2]at hD;exact⟨rfl,_,_,by rw[HH.out.2.2.2.2.2];exact zN HH.out.2.1 b1 J.out.2 hD aF b3 O3 HH.out.2.2.2.2.1⟩
theorem pI:∀xs:List Value,(xs.map λx=>[x]).flatten=xs
 | []=>rfl
 | x::xs=>by rw[List.map_cons,List.flatten_cons,pI xs];rfl
theorem zh{w:World}{base:Nat}{v:Value}{ls:List (List UInt8)}{S:Nat->Prop}(h:Fr0.jO w base v ls)(hS:∀b,S b->b<base):aD cf 97 w base S v ls:=by
 obtain⟨A,c,xs,rfl,ho,hl,hx⟩:=h;refine⟨xs.map λx=>[x],by rw[pI];exact ho,by simpa using hl,λi u a hu ha=>?_⟩;rw[List.getElem?_map]at hu;obtain⟨x,J,rfl⟩:=Option.map_eq_some_iff.1 hu;have hr:=hx i x a J ha;obtain⟨A2,c2,rfl⟩:=eH hr;refine⟨A2,c2,rfl,?_,fR hr⟩;by_cases h0:a=[]
 ·exact .inl (by rw[h0];rfl)
 ·rcases hr.2 with⟨hv,aL⟩ | ⟨g,cap,cur,hv,hg,hh,aA,ao,hcs,M⟩
  ·exact absurd (List.eq_nil_of_length_eq_zero aL) h0
  ·have hA:A2=some ⟨g,0,none⟩:=(by injection hv);refine .inr ⟨g,0,hA,(Array.getElem?_eq_some_iff.1 hh).1,λe=>?_,λj u hu=>?_⟩
   ·rcases e with e | e
    ·have:=hS g e;omega
    ·exact ai.cx (cs:=cur) hh ho (by decide) e.symm
   ·have:=hr.cells (g:=g) (by rw[hA];rfl) j u hu
    rwa [Addr.add_lit]at this
theorem kQ:∀ (recs:List (List UInt8)),(∀p∈recs,0<p.length/\p.length<=4000)->Fr.full (recs.map Fr.wrap).flatten=recs
 | [],_=>by unfold Fr.full;rfl
 | p::l,h=>by
  rw[List.map_cons,List.flatten_cons,Fr.g3 p _ (h p (by simp)).1 (h p (by simp)).2,kQ l (λq hq=>h q (by simp[hq]))]
theorem kY:∀ (recs:List (List UInt8)),Fr.used recs=((recs.map Fr.wrap).flatten).length
 | []=>rfl
 | p::l=>by
  rw[List.map_cons,List.flatten_cons,List.length_append,Fr.dC,<-kY l];simp[Fr.used]
theorem yC(q:Nat)(A:Option Addr)(n c:Nat):(Program.built Tryz.prog 159 [(0,.pointer (aj q)),(1,Y A n c)]).map Array.toList=some [.pointer (aj q),Y A n c]:=by kernel_rfl
theorem xV(q:Nat)(A:Option Addr)(n c:Nat)(w:World):(Instr.build 159 #[(0,.pointer (aj q)),(1,Y A n c)]).run Tryz.prog w=.ok (aE #[aj q,Y A n c]) w:=by
 obtain⟨cs,h1,h2⟩:=Option.map_eq_some_iff.1 (yC q A n c);rw[run_build w 159 _ cs h1];rw[show cs=#[.pointer (aj q),Y A n c] from Array.toList_inj.1 h2]
theorem pV(S:Nat->Prop)(q:Nat)(dr:Option Nat)(recs:List (List UInt8))(last room:Nat)(w:World)(hS:mF w S)(hD:Dk.cY w q 0 dr (recs.map Fr.wrap).flatten last room)(aZ:∀p∈recs,0<p.length/\p.length<=4000)(aY:∀b,(b=q\/dr=some b)->S b):
 Calls Tryz.prog 41 #[aj q] w λe w'=>∃g rr,e=.returned (.tuple #[aj g,ag 0])/\w.heap.size<=g/\b8 w' (iR S (cc.bE ⟨g,q,rr,dr⟩)) ⟨g,q,rr,dr⟩ recs (recs.map Fr.wrap).flatten.length room/\Goes (λb=>b=q\/dr=some b) w (cc.bE ⟨g,q,rr,dr⟩) w':=by
 obtain⟨fl,a1⟩:=am ((recs.map Fr.wrap).flatten);rw[<-a1]at hD ⊢;have aq:Fr.full fl=recs:=by rw[a1];exact kQ recs aZ
 have ae:Fr.used recs=fl.length:=by rw[a1];exact kY recs
 have aX:fl.length<=1048576:=by
  obtain⟨_,_,_,_,_,_,_,h1,h2⟩:=hD;omega
 have rd:=Dk.o3 q 0 last room dr fl w hD;have HH:=kz hS hD aZ aY aq ae a1;obtain⟨fn,M⟩:=am fl.length;have HN:=Lib.hid M;clear hS hD aZ aY aq ae a1 M;go_enter Tryz.func41,Tryz.ntmps41;go_wp2_with fail;refine rd.mono ?_;clear rd;rintro e w1 ⟨A1,c1,rfl,ad,b1⟩;have sc:=Fr0.wB A1 c1 fl w1 (Bytes.old (om (S:=λ_=>False) ad (λ_ h=>h.elim))) (fR ad) aX;rw[HH.out.2.2.2.2.1,HH.out.2.2.2.2.2.1]at sc;go_wp2_with fail;refine sc.mono ?_;clear sc;rintro e w2 ⟨v,rfl,ar,b2⟩;have au:Dk.cY w2 q 0 dr fl last room:=cF HH.out.2.1 (F:=λ_=>False) (Goes.ao (b1.trans (b2.mono b1.size)) _) (λh=>h) (λ_ _ h=>h);have cM:=Dk.Bh q 0 last room dr fl fl.length w2 au (Nat.le_refl _);rw[List.take_length]at cM;obtain⟨Av,cv,xs,rfl,ho,hl,hx⟩:=ar;have ar:Fr0.jO w2 (w1.heap.size+1) (Y Av recs.length cv) recs:=⟨Av,cv,xs,rfl,ho,hl,hx⟩;clear ho hl hx;go_wp2_with fail;refine cM.mono ?_;clear cM;rintro e w3 ⟨rfl,aa,ah⟩;have bF:=λw=>xV q Av recs.length cv w;go_wp2;go_ret2;have gD:=hK ah (.inr (.inl rfl));have aK:=b1.trans (b2.mono b1.size);have I:aD cf 97 w2 (w1.heap.size+1) S (Y Av recs.length cv) recs:=zh ar (λb a7=>by have:=HH.out.1 b a7;have:=b1.size;omega);have af:∀b,(b=q\/dr=some b)->b<w.heap.size:=λb a7=>HH.out.1 b (HH.out.2.2.2.1 b a7);have ak:∀b,(Value.slice Av recs.length cv).ownBlock=some b->¬ (b=q\/dr=some b):=λb a7 e=>by
  have:=(I.lt a7).1;have:=af b e;have:=b1.size;omega
 have bC:Below w3 w3 (w3.alloc (.cells #[aj q,Y Av recs.length cv] 159)):=(Below.refl _ _).alloc (Nat.le_refl _) _;have av:w.heap.size<=w2.heap.size:=aK.size;have ax:w2.heap.size<=w3.heap.size:=gD.size;have J:=gD.trans (Goes.ao bC _);refine⟨w3.heap.size,(Value.slice Av recs.length cv).ownBlock,rfl,by omega,⟨⟨_,ai.made _ _ _,rfl,?_⟩,?_,HH.out.2.2.1,λb a7=>.inr a7⟩,?_⟩
 ·obtain⟨us,k1,k2,k3⟩:=I.mono (base':=0) (Nat.zero_le _);have gp:Goes (bm S (Y Av recs.length cv)) w2 (bm (iR S (cc.bE ⟨w3.heap.size,q,(Value.slice Av recs.length cv).ownBlock,dr⟩)) (Y Av recs.length cv)) (w3.alloc (.cells #[aj q,Y Av recs.length cv] 159)):=
   ⟨J.os,J.tape,J.output,J.size,λb a7 aL=>J.aI b a7 (λe=>aL (.inl (HH.out.2.2.2.1 b e))),λb a7 hs=>by
    rcases hs with(hs | hs | hs | hs | hs) | hs
    ·exact .inl hs
    ·have e:b=w3.heap.size:=hs;omega
    ·exact .inl (HH.out.2.2.2.1 b (.inl hs))
    ·exact .inr hs
    ·exact .inl (HH.out.2.2.2.1 b (.inr hs))
    ·exact .inr hs⟩
  exact⟨us,cS k1 J ak,k2,λi u a hu ha=>cf.goes (k3 i u a hu ha) gp⟩
 ·have aw:Dk.cY _ q 0 dr fl fl.length room:=cF aa (F:=λ_=>False) (Goes.ao bC _) (λh=>h) (λ_ _ h=>h);rw[<-HH.out.2.2.2.2.2.2];exact aw
 ·have g0:Goes (λb=>b=q\/dr=some b) w (λb=>b=q\/dr=some b) w2:=Goes.ao aK _;have gw:=g0.trans J;exact⟨gw.os,gw.tape,gw.output,gw.size,gw.aI,λb a7 hs=>by
   rcases hs with hs | hs | hs | hs
   ·have e:b=w3.heap.size:=hs;omega
   ·exact .inl hs
   ·have:=(I.lt hs).1;have:=b1.size;omega
   ·exact .inr hs⟩
end
def aB:dD ae:=⟨8,λw S u x=>∃A c,u=x.cellsOf A c/\SliceAt aN w S A x.events,λh=>by
 obtain⟨A,c,rfl,_⟩:=h;rfl,λh v hv=>by
 obtain⟨A,c,rfl,_⟩:=h;simp only[ae.cellsOf,List.mem_cons,List.not_mem_nil,or_false]at hv;rcases hv with rfl | rfl | rfl | rfl | rfl | rfl | rfl | rfl<;>rfl,λh g=>by
 obtain⟨A,c,rfl,h⟩:=h;exact⟨A,c,rfl,h.goes g⟩⟩
theorem lG(a b:PId)(w:World):(binOp .eql 32 a.val b.val).run Tryz.prog w=.ok (.bool (decide (a=b))) w:=by
 unfold PId.val;go_simp;obtain⟨x,y,z⟩:=a;obtain⟨J,I,M⟩:=b;simp only[PId.mk.injEq];by_cases h1:x=J
 ·by_cases h2:y=I
  ·by_cases a1:z=M
   ·simp[h1,h2,a1]
   ·rw[if_pos (by omega),if_pos (by omega),if_neg (by omega)];simp[a1]
  ·rw[if_pos (by omega),if_neg (by omega)];simp[h2]
 ·rw[if_neg (by omega)];simp[h1]
def bd(l:List ae)(id:PId):Bool:=l.any λx=>decide (x.id=id)
theorem vx(S:Nat->Prop)(A:Option Addr)(n c:Nat)(l:List ae)(id:PId)(w:World)(aL:n=l.length)(hm:n<=1000000)(h:SliceAt aB w S A l):
 Calls Tryz.prog 122 #[Y A n c,id.val] w λe w'=>e=.returned (.bool (bd l id))/\Below w w w':=by
 obtain⟨r,hr⟩:=am (bd l id);rw[<-hr];have HR:=Lib.hid hr;have HN:=Lib.hid aL;unfold PId.val;obtain⟨w0,ar⟩:=am (w.alloc (.cells (bY id) 32));have hC:ai w0 w 32 (bY id):=by rw[ar];exact ai.made _ _ _
 have aU:=aV ar;have h0:=h.below aU;obtain⟨cb,M⟩:=am w.heap.size;rw[<-M]at hC;have aF:=Lib.hid M;obtain⟨ba,c1,c2⟩:=hC.c3;simp at ba c1 c2;clear h aL hr M;go_enter Tryz.func122,Tryz.ntmps122;go_wp2_with fail;rw[<-ar,<-aF.out];clear ar
 go_loopw [8] (λi_ wr=>∃i:Nat,i_=I af i/\i<=n/\Hid (bd (l.take i) id=false)/\∃k,wr=w0.drewN k) (λi _=>n- (intOf i).toNat)
 case atStart=>exact⟨0,rfl,by omega,(rfl:_=_),0,rfl⟩
 case round=>
  obtain⟨i,rfl,hi,HA,k,rfl⟩:=hrel;by_cases bA:i<n
  ·have bu:i<l.length:=(by have:=HN.out;omega);have bE:(i:Int)<(n:Int):=(by omega);obtain⟨b,off,u,rfl,bV,b8,bx,hcell,A2,c8,hu,h2⟩:=h0.at_ bu (by decide);rw[hu]at hcell;have d1:w0.cell? ⟨b,off+i*8+1,none⟩=some (I af l[i].id.au):=hcell 1 _ rfl;have d2:w0.cell? ⟨b,off+i*8+2,none⟩=some (I ak l[i].id.aq):=hcell 2 _ rfl;have d3:w0.cell? ⟨b,off+i*8+3,none⟩=some (I ak l[i].id.ax):=hcell 3 _ rfl;clear hcell bx hu h2;have a4:Hid (bd (l.take (i+1)) id=decide (l[i].id=id)):=by
    show bd (l.take (i+1)) id=_;have h1:=HA.out;unfold bd at h1 ⊢;rw[List.take_succ_eq_append_getElem bu,List.any_append,h1];simp
   have HX:Hid (l[i].id=id->r=true):=λe=>by
    rw[HR.out];unfold bd;rw[List.any_eq_true];exact⟨l[i],List.getElem_mem bu,by simp[e]⟩
   obtain⟨y,hy⟩:=am (l[i].id);rw[<-hy]at d1 d2 d3 a4 HX;clear hy;by_cases e1:y.au=id.au
   ·by_cases a5:y.aq=id.aq
    ·by_cases e3:y.ax=id.ax
     ·have HT:Hid (r=true):=HX.out (by cases y;cases id;simp_all);go_wp2
      go_quiet (fail)
      go_wp2;go_ret;exact⟨by rw[HT.out];rfl,dc (dc aU)⟩
     ·have HF:Hid (bd (l.take (i+1)) id=false):=by
       show _=false;rw[a4.out,decide_eq_false (λe=>e3 (by rw[e]))]
      go_wp2
      go_quiet (fail)
      go_wp2
      go_round
      case rel=>exact⟨i+1,by go_num,by omega,HF,_,rfl⟩
      case measure=>simp[intOf];omega
    ·have HF:Hid (bd (l.take (i+1)) id=false):=by
      show _=false;rw[a4.out,decide_eq_false (λe=>a5 (by rw[e]))]
     go_wp2
     go_quiet (fail)
     go_wp2
     go_round
     case rel=>exact⟨i+1,by go_num,by omega,HF,_,rfl⟩
     case measure=>simp[intOf];omega
   ·have HF:Hid (bd (l.take (i+1)) id=false):=by
     show _=false;rw[a4.out,decide_eq_false (λe=>e1 (by rw[e]))]
    go_wp2
    go_quiet (fail)
    go_wp2
    go_round
    case rel=>exact⟨i+1,by go_num,by omega,HF,_,rfl⟩
    case measure=>simp[intOf];omega
  ·obtain rfl:i=n:=(by omega);have HE:Hid (r=false):=by
    show r=false;rw[HR.out,<-HA.out,HN.out,List.take_length]
   go_wp2;go_ret;exact⟨by rw[HE.out];rfl,dc aU⟩
theorem g7(S:Nat->Prop)(aq:Int)(A:Option Addr)(n c:Nat)(l:List ae)(P B:Value)(id:PId)(w:World)(aL:n=l.length)(hm:n<=1000000)(h:SliceAt aB w S A l)(bv:∃A2 aZ c2,P=Y A2 aZ c2)(hB:∃A2 aZ c2,B=Y A2 aZ c2):
 Calls Tryz.prog 65 #[aE #[av aq,Y A n c,P,B],id.val] w λe w'=>e=.returned (.bool (bd l id))/\Below w w w':=by
 obtain⟨A2,aZ,c2,rfl⟩:=bv;obtain⟨A3,n3,c3,rfl⟩:=hB;have ha:=(Below.refl w w).alloc (Nat.le_refl _) (.cells #[av aq,Y A n c,Y A2 aZ c2,Y A3 n3 c3] 49);have a7:=ha.alloc ha.size (.cells (bY id) 32);have bc:=vx S A n c l id _ aL hm (h.below a7);unfold PId.val at bc ⊢;clear h aL;go_enter Tryz.func65,Tryz.ntmps65;go_wp2_with fail;refine bc.mono ?_;clear bc;rintro e w1 ⟨rfl,b1⟩;go_wp2;go_ret;exact⟨rfl,a7.trans (b1.mono a7.size)⟩
theorem hU(S:Nat->Prop)(aq:Int)(A:Option Addr)(n c:Nat)(l:List ae)(P B:Value)(id:PId)(w:World)(aL:n=l.length)(hm:n<=1000000)(h:SliceAt aB w S A l)(bv:∃A2 aZ c2,P=Y A2 aZ c2)(hB:∃A2 aZ c2,B=Y A2 aZ c2):
 Calls Tryz.prog 142 #[aE #[av aq,P,Y A n c,B],id.val] w λe w'=>e=.returned (.bool (bd l id))/\Below w w w':=by
 obtain⟨A2,aZ,c2,rfl⟩:=bv;obtain⟨A3,n3,c3,rfl⟩:=hB;have ha:=(Below.refl w w).alloc (Nat.le_refl _) (.cells #[av aq,Y A2 aZ c2,Y A n c,Y A3 n3 c3] 49);have a7:=ha.alloc ha.size (.cells (bY id) 32);have bc:=vx S A n c l id _ aL hm (h.below a7);unfold PId.val at bc ⊢;clear h aL;go_enter Tryz.func142,Tryz.ntmps142;go_wp2_with fail;refine bc.mono ?_;clear bc;rintro e w1 ⟨rfl,b1⟩;go_wp2;go_ret;exact⟨rfl,a7.trans (b1.mono a7.size)⟩
theorem ic{w:World}{S:Nat->Prop}{A:Option Addr}{e:List aO}(h:SliceAt cy w S A e):Src w A (e.map aO.cells).flatten:=by
 obtain⟨us,h1,_,h2,_,a1⟩:=h.src;have:us=e.map aO.cells:=by
  apply List.ext_getElem?;intro i;by_cases hi:i<us.length
  ·have h4:=a1 i us[i] (e[i]'(by omega)) (List.getElem?_eq_getElem hi) (List.getElem?_eq_getElem (by omega));rw[List.getElem?_eq_getElem hi,List.getElem?_map,List.getElem?_eq_getElem (by omega:i<e.length),h4.1];rfl
  ·rw[List.getElem?_eq_none (by omega),List.getElem?_eq_none (by simp;omega)]
 rw[<-this];exact h1
theorem gE(e:List aO):(e.map aO.cells).flatten.length=e.length*4:=by
 rw[cd (k:=4) _ (λu hu=>by
  obtain⟨a,_,rfl⟩:=List.mem_map.1 hu;rfl),List.length_map]
theorem eC(e:List aO):∀u∈(e.map aO.cells).flatten,u.oneCell'=true:=λu hu=>by
 obtain⟨y,hy,hu⟩:=List.mem_flatten.1 hu;obtain⟨a,_,rfl⟩:=List.mem_map.1 hy;simp only[aO.cells,str,List.mem_cons,List.not_mem_nil,or_false]at hu;rcases hu with rfl | rfl | rfl | rfl<;>rfl
theorem iq{P:Prop}(h:P:=by
 go_wp2_with fail;rw[<-ar,<-bj.out];clear ar;obtain⟨i0,z0,bM,bL,bB,bJ,bR⟩:=aS Tryz.jM;obtain⟨j0,y0,aK,ba,bh,bd,a6⟩:=aS Tryz.iE
 go_loopw [3,13] (λv_ i_ wr=>∃i:Nat,i_=I af i/\i<=m/\aD aN 39 wr w0 (λb=>b<w0.heap.size) v_ (aX.take i)/\Below w0 w0 wr) (λ_ i _=>m- (intOf i).toNat)
 case atStart=>exact⟨0,rfl,by omega,aD.nil _ _ _ _ _,.refl _ _⟩
 case round=>
  obtain⟨i,rfl,hi,O,a7⟩:=hrel;by_cases bA:i<m
  ·have bu:i<aX.length:=(by have:=HM.out;omega);have bE:(i:Int)<(m:Int):=(by omega);have aY:=HE.out _ (List.getElem_mem bu);have a4:Hid (aX.take (i+1)=aX.take i++[aX[i]]):=List.take_succ_eq_append_getElem bu;have aW:(aX.take i).length=i:=(by rw[List.length_take];omega);obtain⟨b,off,u,rfl,bV,b8,bx,hcell,A2,c8,hu,h2⟩:=(HS.out.below a7).at_ bu (by decide);rw[hu]at hcell;have d8:wr.cell? ⟨b,off+i,none⟩=some (Y A2 aX[i].length c8):=(by simpa[aN]using hcell 0 _ rfl);obtain⟨ev,aB⟩:=am (aX[i]);rw[<-aB]at a4 d8 h2 aY;have a3:=ic h2;have a1:=gE ev;have fK:=eC ev;have aH:=aY.2;have bT:=aY.1;obtain⟨A3,n3,c3,rfl,a2,bY⟩:=O.form;have e3:n3=i:=(by rw[a2.out,aW]);subst e3;clear hcell bx hu aB h2 aY;go_wp2_with (first
    | (at_builtin;refine ca _ rfl (.const aa) (.tmp 18) 39 rfl wr 4 60 i0 z0 48 Tryz.underlying39 bM bL bJ bR bB (by omega) aa 0 [] rfl (World.ownsRow_nil _ _ _ _) A2 ev.length c8 _ rfl a1 a3 fK (by unfold maxLen;omega) (by omega) (Nat.le_refl _) ?_;intro A5 c5 w5 ay g5 bP
       rw[Nat.zero_add,List.nil_append]at ay;simp only[Nat.zero_add];have bS:Below wr wr w5:=(Below.refl _ wr).grown g5 (Nat.le_refl _) (λk hk=>by cases hk);have O1:=O.below bS;have bC:=(Below.refl w5 w5).alloc (Nat.le_refl _) (.cells #[Y A5 ev.length c5] 39);have bI:aN.R (w5.alloc (.cells #[Y A5 ev.length c5] 39)) (bm (λb=>b<w0.heap.size) (Y A3 n3 c3)) [Y A5 ev.length c5] ev:=
        ⟨A5,c5,rfl,dS (aT ay bC) (λb aG=>by
         rcases aG with aG | aG
         ·have:=a7.size;omega
         ·exact(O.lt aG).2) aH⟩
       clear ay bP g5)
    | (at_builtin;refine a9 _ rfl (.tmp 17) (.tmp 20) 23 rfl aN w0 39 j0 y0 24 Tryz.underlying23 aK ba bd a6 bh (by decide) (λb=>b<w0.heap.size) (Y A3 n3 c3) (aX.take n3) rfl (O1.below bC) (aj w5) 1 [Y A5 ev.length c5] ev rfl (Src.made w5 _ _) bI (by rw[aW];unfold maxLen;omega) (by rw[aW];omega) (by simp;have:=a7.size;have:=bS.size;omega) ?_;intro A6 bX w6 O6 cz gr aZ))
   rw[aW,<-a4.out]at O6;have aQ:∀k,(Value.slice A3 n3 c3).ownBlock=some k->w0.heap.size<=k:=λk hk=>(O.lt hk).1
   go_round
   case rel=>exact⟨n3+1,by go_num,by omega,O6,((a7.trans (bS.mono a7.size)).trans (bC.mono (Nat.le_trans a7.size bS.size))).grown gr (by simp;have:=a7.size;have:=bS.size;omega) aQ⟩
   case measure=>simp[intOf];omega
  ·obtain rfl:i=m:=(by omega);rw[HM.out,List.take_length]at O;obtain⟨A3,n3,c3,rfl,a2,bY⟩:=O.form;obtain rfl:n3=i:=(by rw[a2.out,<-HM.out]);have M:=bD.below a7 bD.lt;have aw:=aI.below a7 aI.lt;obtain⟨x0,x1,x2,x3,x4,x5,x6,x7⟩:=M.c8;have aL:=M.free 7;have r0:=aw.cell 0;have cj:=aw.free 0;have r1:=aw.cell 1;have cf:=aw.free 1;have bf:=aw.cell 2;have cd:=aw.free 2;have r3:=aw.cell 3;have bW:=aw.free 3;have r4:=aw.cell 4;have cb:=aw.free 4;have r5:=aw.cell 5;have ce:=aw.free 5;have r6:=aw.cell 6;have b6:=aw.free 6;have r7:=aw.cell 7;have b4:=aw.free 7;simp at x0 r0 x1 r1 x2 bf x3 r3 x4 r4 x5 r5 x6 r6 x7 r7;go_wp2_with fail;obtain⟨w2,a8⟩:=am (wr.setCell ⟨xb,7,none⟩ (Y A3 n3 c3));have ad:ai w2 (xb+1) 132 cZ:=(by rw[a8];exact aw.dA (by simp) _);have g2:wr.grownBy w2 (some xb):=(by rw[a8];exact aR _ _ _ _);rw[<-a8];have RZ:=((((((((ad.put 0 (ag kind)).put 1 (ag id.au)).put 2 (av id.aq)).put 3 (av id.ax)).put 4 (ag ah)).put 5 (av sub)).put 6 (aa)).put 7 (Y A3 n3 c3));simp only[List.setIfInBounds_toArray,List.set_cons_zero,List.set_cons_succ]at RZ;have gz:=bl (xb+1) [(I af kind),(I af id.au),(I ak id.aq),(I ak id.ax),(I af ah),(I ak sub),(aa),(Y A3 n3 c3)] w2 0;refine bodyPost_ret (results_cell_row rfl _ _ (xb+1) 132 _ (0,0) _ rfl RZ Tryz.underlying132 rfl (by kernel_rfl)) rfl ?_;have bb:xb<w0.heap.size:=bD.lt;have J:xb+1<w0.heap.size:=aI.lt;have bc:=bj.out;have gl:Goes (λb=>b<w0.heap.size) wr (λb=>b<w0.heap.size) _:=(aJ g2 bb).trans (aJ gz J);refine⟨A3,c3,rfl,?_,((aU.trans (a7.mono aU.size)).grown g2 (Nat.le_trans aU.size a7.size) (λk e=>by injection e with e;omega)).grown gz (Nat.le_trans (Nat.le_trans aU.size a7.size) g2.size) (λk e=>by injection e with e;omega)⟩;exact((O.slice (λ_ h=>h) (λ_ h=>h)).goes gl).goes ⟨rfl,rfl,rfl,Nat.le_refl _,λ_ _ _=>rfl,λb _ hs=>Nat.lt_of_lt_of_le hs aU.size⟩
 ):P:=h
theorem ix{P:Prop}(h:P:=by
 have:=ai.made (w.alloc (.cells (eV kind id ah sub A m c) 132)) 132 cZ;simpa using this
 ):P:=h
theorem hL(S:Nat->Prop)(x:ae)(A:Option Addr)(c:Nat)(w:World)(h:SliceAt aN w S A x.events)(bk:x.events.length<=100)(aB:∀e∈x.events,e.length<=1000/\∀a∈e,a.fits):
 Calls Tryz.prog 139 #[aE (x.cellsOf A c).toArray] w λe w'=>∃A' c',e=.returned (aE (x.cellsOf A' c').toArray)/\SliceAt aN w' (λb=>b<w.heap.size) A' x.events/\Below w w w':=by
 obtain⟨kind,id,ah,sub,aX⟩:=x;unfold ae.cellsOf;simp only at h bk aB ⊢;obtain⟨m,hm⟩:=am aX.length;rw[<-hm]at bk ⊢;have HM:=Lib.hid hm;have HE:=Lib.hid aB;obtain⟨w0,ar⟩:=am ((w.alloc (.cells (eV kind id ah sub A m c) 132)).alloc (.cells cZ 132));have ha:=(Below.refl w w).alloc (Nat.le_refl _) (.cells (eV kind id ah sub A m c) 132);have aU:Below w w w0:=by rw[ar];exact ha.alloc ha.size _
 have bD:ai w0 w 132 (eV kind id ah sub A m c):=by rw[ar];exact(ai.made w 132 _).alloc _
 have aI:ai w0 (w.heap.size+1) 132 cZ:=by
  rw[ar];exact ix
 have HS:=Lib.hid (h.below aU);have bL:w0.heap.size=w.heap.size+2:=by rw[ar];simp
 have HZ:=Lib.hid bL;obtain⟨xb,a0⟩:=am w.heap.size;have bj:=Lib.hid a0;rw[<-a0]at bD aI;clear hm aB h ha a0 bL;go_enter Tryz.func139,Tryz.ntmps139;exact iq
theorem iT(S:Nat->Prop)(x:ae)(A:Option Addr)(c:Nat)(w:World)(h:SliceAt aN w S A x.events)(bk:x.events.length<=100)(aB:∀e∈x.events,e.length<=1000/\∀a∈e,a.fits):
 Calls Tryz.prog 103 #[aE (x.cellsOf A c).toArray] w λe w'=>∃A' c',e=.returned (aE (x.cellsOf A' c').toArray)/\SliceAt aN w' (λb=>b<w.heap.size) A' x.events/\Below w w w':=by
 obtain⟨kind,id,ah,sub,aX⟩:=x;unfold ae.cellsOf;simp only at h bk aB ⊢;obtain⟨m,hm⟩:=am aX.length;rw[<-hm]at bk ⊢;have HM:=Lib.hid hm;have HE:=Lib.hid aB;obtain⟨w0,ar⟩:=am ((w.alloc (.cells (eV kind id ah sub A m c) 132)).alloc (.cells cZ 132));have ha:=(Below.refl w w).alloc (Nat.le_refl _) (.cells (eV kind id ah sub A m c) 132);have aU:Below w w w0:=by rw[ar];exact ha.alloc ha.size _
 have bD:ai w0 w 132 (eV kind id ah sub A m c):=by rw[ar];exact(ai.made w 132 _).alloc _
 have aI:ai w0 (w.heap.size+1) 132 cZ:=by
  rw[ar];exact ix
 have HS:=Lib.hid (h.below aU);have bL:w0.heap.size=w.heap.size+2:=by rw[ar];simp
 have HZ:=Lib.hid bL;obtain⟨xb,a0⟩:=am w.heap.size;have bj:=Lib.hid a0;rw[<-a0]at bD aI;clear hm aB h ha a0 bL;go_enter Tryz.func103,Tryz.ntmps103;exact iq
theorem rJ(S:Nat->Prop)(x:ae)(A:Option Addr)(c:Nat)(w:World)(h:SliceAt aN w S A x.events)(bk:x.events.length<=100)(aB:∀e∈x.events,e.length<=1000/\∀a∈e,a.fits):
 Calls Tryz.prog 310 #[aE (x.cellsOf A c).toArray] w λe w'=>∃A' c',e=.returned (aE (x.cellsOf A' c').toArray)/\SliceAt aN w' (λb=>b<w.heap.size) A' x.events/\Below w w w':=by
 obtain⟨kind,id,ah,sub,aX⟩:=x;unfold ae.cellsOf;simp only at h bk aB ⊢;obtain⟨m,hm⟩:=am aX.length;rw[<-hm]at bk ⊢;have HM:=Lib.hid hm;have HE:=Lib.hid aB;obtain⟨w0,ar⟩:=am ((w.alloc (.cells (eV kind id ah sub A m c) 132)).alloc (.cells cZ 132));have ha:=(Below.refl w w).alloc (Nat.le_refl _) (.cells (eV kind id ah sub A m c) 132);have aU:Below w w w0:=by rw[ar];exact ha.alloc ha.size _
 have bD:ai w0 w 132 (eV kind id ah sub A m c):=by rw[ar];exact(ai.made w 132 _).alloc _
 have aI:ai w0 (w.heap.size+1) 132 cZ:=by
  rw[ar];exact ix
 have HS:=Lib.hid (h.below aU);have bL:w0.heap.size=w.heap.size+2:=by rw[ar];simp
 have HZ:=Lib.hid bL;obtain⟨xb,a0⟩:=am w.heap.size;have bj:=Lib.hid a0;rw[<-a0]at bD aI;clear hm aB h ha a0 bL;go_enter Tryz.func310,Tryz.ntmps310;exact iq
theorem gT(S:Nat->Prop)(x:ae)(A:Option Addr)(c:Nat)(w:World)(h:SliceAt aN w S A x.events)(bk:x.events.length<=100)(aB:∀e∈x.events,e.length<=1000/\∀a∈e,a.fits):
 Calls Tryz.prog 253 #[aE (x.cellsOf A c).toArray] w λe w'=>∃A' c',e=.returned (aE (x.cellsOf A' c').toArray)/\SliceAt aN w' (λb=>b<w.heap.size) A' x.events/\Below w w w':=by
 obtain⟨kind,id,ah,sub,aX⟩:=x;unfold ae.cellsOf;simp only at h bk aB ⊢;obtain⟨m,hm⟩:=am aX.length;rw[<-hm]at bk ⊢;have HM:=Lib.hid hm;have HE:=Lib.hid aB;obtain⟨w0,ar⟩:=am ((w.alloc (.cells (eV kind id ah sub A m c) 132)).alloc (.cells cZ 132));have ha:=(Below.refl w w).alloc (Nat.le_refl _) (.cells (eV kind id ah sub A m c) 132);have aU:Below w w w0:=by rw[ar];exact ha.alloc ha.size _
 have bD:ai w0 w 132 (eV kind id ah sub A m c):=by rw[ar];exact(ai.made w 132 _).alloc _
 have aI:ai w0 (w.heap.size+1) 132 cZ:=by
  rw[ar];exact ix
 have HS:=Lib.hid (h.below aU);have bL:w0.heap.size=w.heap.size+2:=by rw[ar];simp
 have HZ:=Lib.hid bL;obtain⟨xb,a0⟩:=am w.heap.size;have bj:=Lib.hid a0;rw[<-a0]at bD aI;clear hm aB h ha a0 bL;go_enter Tryz.func253,Tryz.ntmps253;exact iq
theorem oK(S:Nat->Prop)(x:ae)(A:Option Addr)(c:Nat)(w:World)(h:SliceAt aN w S A x.events)(bk:x.events.length<=100)(aB:∀e∈x.events,e.length<=1000/\∀a∈e,a.fits):
 Calls Tryz.prog 124 #[aE (x.cellsOf A c).toArray] w λe w'=>∃A' c',e=.returned (aE (x.cellsOf A' c').toArray)/\SliceAt aN w' (λb=>b<w.heap.size) A' x.events/\Below w w w':=by
 obtain⟨kind,id,ah,sub,aX⟩:=x;unfold ae.cellsOf;simp only at h bk aB ⊢;obtain⟨m,hm⟩:=am aX.length;rw[<-hm]at bk ⊢;have HM:=Lib.hid hm;have HE:=Lib.hid aB;obtain⟨w0,ar⟩:=am ((w.alloc (.cells (eV kind id ah sub A m c) 132)).alloc (.cells cZ 132));have ha:=(Below.refl w w).alloc (Nat.le_refl _) (.cells (eV kind id ah sub A m c) 132);have aU:Below w w w0:=by rw[ar];exact ha.alloc ha.size _
 have bD:ai w0 w 132 (eV kind id ah sub A m c):=by rw[ar];exact(ai.made w 132 _).alloc _
 have aI:ai w0 (w.heap.size+1) 132 cZ:=by
  rw[ar];exact ix
 have HS:=Lib.hid (h.below aU);have bL:w0.heap.size=w.heap.size+2:=by rw[ar];simp
 have HZ:=Lib.hid bL;obtain⟨xb,a0⟩:=am w.heap.size;have bj:=Lib.hid a0;rw[<-a0]at bD aI;clear hm aB h ha a0 bL;go_enter Tryz.func124,Tryz.ntmps124;exact iq
theorem Tryz.dJ:(Tryz.prog.info? 132).map (λi=>(i.zero.map (λz=>z.cells.size),i.size,i.bytes))=some (some 8,8,96):=by kernel_rfl
theorem Tryz.oi:(Tryz.prog.info? 148).map (λi=>(i.zero.map (λz=>z.cells.size),i.size,i.bytes))=some (some 9,9,104):=by kernel_rfl
theorem Tryz.sK:(Tryz.prog.info? 285).map (λi=>(i.zero.map (λz=>z.cells.size),i.size,i.bytes))=some (some 4,4,32):=by kernel_rfl
theorem Tryz.nM:(Tryz.prog.info? 192).map (λi=>(i.zero.map (λz=>z.cells.size),i.size,i.bytes))=some (some 3,3,40):=by kernel_rfl
theorem Tryz.z1:(Tryz.prog.info? 233).map (λi=>(i.zero.map (λz=>z.cells.size),i.size,i.bytes))=some (some 8,8,160):=by kernel_rfl
theorem Tryz.zU:(Tryz.prog.info? 178).map (λi=>(i.zero.map (λz=>z.cells.size),i.size,i.bytes))=some (some 2,2,32):=by kernel_rfl
theorem Tryz.Ae:(Tryz.prog.info? 161).map (λi=>(i.zero.map (λz=>z.cells.size),i.size,i.bytes))=some (some 13,13,136):=by kernel_rfl
theorem Tryz.vY:(Tryz.prog.info? 53).map (λi=>(i.zero.map (λz=>z.cells.size),i.size,i.bytes))=some (some 1,1,24):=by kernel_rfl
theorem ae.aH.lays{x:ae}(h:x.aH):x.events.length<=100/\∀e∈x.events,e.length<=1000/\∀a∈e,a.fits:=
 ⟨by have:=h.len;omega,λe he=>⟨by have:=(fw (h.ev e he).1).2;omega,(h.ev e he).2⟩⟩
theorem r1{P:Prop}(h:P:=by
 unfold ae.cellsOf at wh;clear hcell bx hu hx h2 aX;go_wp2_with fail;rw[<-aN];clear aN;refine wh.mono ?_;clear wh;rintro e w2 ⟨A4,c4,rfl,h4,b2⟩;have aK:=b1.trans (b2.mono b1.size);have O1:=O.below aK;have bC:=(Below.refl w2 w2).alloc (Nat.le_refl _) (.cells (a3 x A4 c4) 132);have bI:aB.R (w2.alloc (.cells (a3 x A4 c4) 132)) (bm (λb=>b<w.heap.size) (Y A3 n3 c3)) (a3 x A4 c4) x:=
  ⟨A4,c4,rfl,(h4.below bC).weak (λb aG=>by
   have:=b1.size;rcases aG with aG | aG
   ·have:=a7.size;omega
   ·have:=(O.lt aG).2;omega)⟩
 go_wp2_with (at_builtin;refine a9 _ rfl (.tmp 12) (.tmp 15) 46 rfl aB w 132 i0 z0 96 Tryz.underlying46 bM bL bJ bR bB (by decide) (λb=>b<w.heap.size) (Y A3 n3 c3) (l.take n3) rfl (O1.below bC) (aj w2) 1 (a3 x A4 c4) x rfl (Src.made w2 _ _) bI (by rw[aW];unfold maxLen;omega) (by rw[aW];omega) (by simp;have:=a7.size;have:=aK.size;omega) ?_;intro A6 bX w6 O6 cz gr aZ);rw[aW,<-a4.out]at O6;have aQ:∀k,(Value.slice A3 n3 c3).ownBlock=some k->w.heap.size<=k:=λk hk=>(O.lt hk).1
 go_round
 case rel=>exact⟨n3+1,by go_num,by omega,O6,((a7.trans (aK.mono a7.size)).trans (bC.mono (Nat.le_trans a7.size aK.size))).grown gr (by simp;have:=a7.size;have:=aK.size;omega) aQ⟩
 case measure=>simp[intOf];omega
 ):P:=h
theorem hW(S:Nat->Prop)(A:Option Addr)(n c:Nat)(l:List ae)(w:World)(aL:n=l.length)(hm:n<=1000)(h:SliceAt aB w S A l)(hg:∀x∈l,x.aH):
 Calls Tryz.prog 251 #[Y A n c] w λe w'=>∃v,e=.returned v/\aD aB 132 w' w (λb=>b<w.heap.size) v l/\Below w w w':=by
 obtain⟨i0,z0,bM,bL,bB,bJ,bR⟩:=aS Tryz.dJ;have HN:=Lib.hid aL;have HG:=Lib.hid hg;clear aL hg;go_enter Tryz.func251,Tryz.ntmps251;go_wp2_with fail
 go_loopw [3,8] (λv_ i_ wr=>∃i:Nat,i_=I af i/\i<=n/\aD aB 132 wr w (λb=>b<w.heap.size) v_ (l.take i)/\Below w w wr) (λ_ i _=>n- (intOf i).toNat)
 case atStart=>exact⟨0,rfl,by omega,aD.nil _ _ _ _ _,.refl _ _⟩
 case round=>
  obtain⟨i,rfl,hi,O,a7⟩:=hrel;by_cases bA:i<n
  ·have bu:i<l.length:=(by have:=HN.out;omega);have bE:(i:Int)<(n:Int):=(by omega);have aX:=HG.out _ (List.getElem_mem bu);have a4:Hid (l.take (i+1)=l.take i++[l[i]]):=List.take_succ_eq_append_getElem bu;have aW:(l.take i).length=i:=(by rw[List.length_take];omega);obtain⟨b,off,u,rfl,bV,b8,bx,hcell,A2,c8,hu,h2⟩:=(h.below a7).at_ bu (by decide);rw[hu]at hcell;have d0:wr.cell? ⟨b,off+i*8,none⟩=some (I af l[i].kind):=hcell 0 _ rfl;have d1:wr.cell? ⟨b,off+i*8+1,none⟩=some (I af l[i].id.au):=hcell 1 _ rfl;have d2:wr.cell? ⟨b,off+i*8+2,none⟩=some (I ak l[i].id.aq):=hcell 2 _ rfl;have d3:wr.cell? ⟨b,off+i*8+3,none⟩=some (I ak l[i].id.ax):=hcell 3 _ rfl;have d4:wr.cell? ⟨b,off+i*8+4,none⟩=some (I af l[i].ah):=hcell 4 _ rfl;have d5:wr.cell? ⟨b,off+i*8+5,none⟩=some (I ak l[i].sub):=hcell 5 _ rfl;have d7:wr.cell? ⟨b,off+i*8+7,none⟩=some (Y A2 l[i].events.length c8):=hcell 7 _ rfl;have d6:wr.cell? ⟨b,off+i*8+6,none⟩=some aa:=hcell 6 _ rfl;obtain⟨x,hx⟩:=am (l[i]);rw[<-hx]at d0 d1 d2 d3 d4 d5 d7 h2 aX a4;obtain⟨A3,n3,c3,rfl,a2,bY⟩:=O.form;have e3:n3=i:=(by rw[a2.out,aW]);subst e3;have J:=Lib.hid aX;obtain⟨w1,aN⟩:=am (wr.alloc (.cells (a3 x A2 c8) 132));have b1:=aV aN;have wh:=gT S x A2 c8 w1 (h2.below b1) aX.lays.1 aX.lays.2;exact r1
  ·obtain rfl:i=n:=(by omega);rw[HN.out,List.take_length]at O;clear h;go_wp2;go_ret;exact⟨_,rfl,O,a7⟩
theorem js(S:Nat->Prop)(A:Option Addr)(n c:Nat)(l:List ae)(w:World)(aL:n=l.length)(hm:n<=1000)(h:SliceAt aB w S A l)(hg:∀x∈l,x.aH):
 Calls Tryz.prog 67 #[Y A n c] w λe w'=>∃v,e=.returned v/\aD aB 132 w' w (λb=>b<w.heap.size) v l/\Below w w w':=by
 obtain⟨i0,z0,bM,bL,bB,bJ,bR⟩:=aS Tryz.dJ;have HN:=Lib.hid aL;have HG:=Lib.hid hg;clear aL hg;go_enter Tryz.func67,Tryz.ntmps67;go_wp2_with fail
 go_loopw [3,8] (λv_ i_ wr=>∃i:Nat,i_=I af i/\i<=n/\aD aB 132 wr w (λb=>b<w.heap.size) v_ (l.take i)/\Below w w wr) (λ_ i _=>n- (intOf i).toNat)
 case atStart=>exact⟨0,rfl,by omega,aD.nil _ _ _ _ _,.refl _ _⟩
 case round=>
  obtain⟨i,rfl,hi,O,a7⟩:=hrel;by_cases bA:i<n
  ·have bu:i<l.length:=(by have:=HN.out;omega);have bE:(i:Int)<(n:Int):=(by omega);have aX:=HG.out _ (List.getElem_mem bu);have a4:Hid (l.take (i+1)=l.take i++[l[i]]):=List.take_succ_eq_append_getElem bu;have aW:(l.take i).length=i:=(by rw[List.length_take];omega);obtain⟨b,off,u,rfl,bV,b8,bx,hcell,A2,c8,hu,h2⟩:=(h.below a7).at_ bu (by decide);rw[hu]at hcell;have d0:wr.cell? ⟨b,off+i*8,none⟩=some (I af l[i].kind):=hcell 0 _ rfl;have d1:wr.cell? ⟨b,off+i*8+1,none⟩=some (I af l[i].id.au):=hcell 1 _ rfl;have d2:wr.cell? ⟨b,off+i*8+2,none⟩=some (I ak l[i].id.aq):=hcell 2 _ rfl;have d3:wr.cell? ⟨b,off+i*8+3,none⟩=some (I ak l[i].id.ax):=hcell 3 _ rfl;have d4:wr.cell? ⟨b,off+i*8+4,none⟩=some (I af l[i].ah):=hcell 4 _ rfl;have d5:wr.cell? ⟨b,off+i*8+5,none⟩=some (I ak l[i].sub):=hcell 5 _ rfl;have d7:wr.cell? ⟨b,off+i*8+7,none⟩=some (Y A2 l[i].events.length c8):=hcell 7 _ rfl;have d6:wr.cell? ⟨b,off+i*8+6,none⟩=some aa:=hcell 6 _ rfl;obtain⟨x,hx⟩:=am (l[i]);rw[<-hx]at d0 d1 d2 d3 d4 d5 d7 h2 aX a4;obtain⟨A3,n3,c3,rfl,a2,bY⟩:=O.form;have e3:n3=i:=(by rw[a2.out,aW]);subst e3;have J:=Lib.hid aX;obtain⟨w1,aN⟩:=am (wr.alloc (.cells (a3 x A2 c8) 132));have b1:=aV aN;have wh:=oK S x A2 c8 w1 (h2.below b1) aX.lays.1 aX.lays.2;exact r1
  ·obtain rfl:i=n:=(by omega);rw[HN.out,List.take_length]at O;clear h;go_wp2;go_ret;exact⟨_,rfl,O,a7⟩
theorem tc{P:Prop}(h:P:=by
 go_wp2_with fail;obtain⟨i0,z0,bM,bL,bB,bJ,bR⟩:=aS Tryz.jM;obtain⟨j0,y0,aK,ba,bh,bd,a6⟩:=aS Tryz.iE
 go_loopw [3,8] (λv_ i_ wr=>∃i:Nat,i_=I af i/\i<=m/\aD aN 39 wr w (λb=>b<w.heap.size) v_ (aX.take i)/\Below w w wr) (λ_ i _=>m- (intOf i).toNat)
 case atStart=>exact⟨0,rfl,by omega,aD.nil _ _ _ _ _,.refl _ _⟩
 case round=>
  obtain⟨i,rfl,hi,O,a7⟩:=hrel;by_cases bA:i<m
  ·have bu:i<aX.length:=(by have:=HM.out;omega);have bE:(i:Int)<(m:Int):=(by omega);have aY:=HE.out _ (List.getElem_mem bu);have a4:Hid (aX.take (i+1)=aX.take i++[aX[i]]):=List.take_succ_eq_append_getElem bu;have aW:(aX.take i).length=i:=(by rw[List.length_take];omega);obtain⟨b,off,u,rfl,bV,b8,bx,hcell,A2,c8,hu,h2⟩:=(h.below a7).at_ bu (by decide);rw[hu]at hcell;have d8:wr.cell? ⟨b,off+i,none⟩=some (Y A2 aX[i].length c8):=(by simpa[aN]using hcell 0 _ rfl);obtain⟨ev,aB⟩:=am (aX[i]);rw[<-aB]at a4 d8 h2 aY;have a3:=ic h2;have a1:=gE ev;have fK:=eC ev;have aH:=aY.2;have bT:=aY.1;obtain⟨A3,n3,c3,rfl,a2,bY⟩:=O.form;have e3:n3=i:=(by rw[a2.out,aW]);subst e3;clear hcell bx hu aB h2 aY;go_wp2_with (first
    | (at_builtin;refine ca _ rfl (.const aa) (.tmp 13) 39 rfl wr 4 60 i0 z0 48 Tryz.underlying39 bM bL bJ bR bB (by omega) aa 0 [] rfl (World.ownsRow_nil _ _ _ _) A2 ev.length c8 _ rfl a1 a3 fK (by unfold maxLen;omega) (by omega) (Nat.le_refl _) ?_;intro A5 c5 w5 ay g5 bP
       rw[Nat.zero_add,List.nil_append]at ay;simp only[Nat.zero_add];have bS:Below wr wr w5:=(Below.refl _ wr).grown g5 (Nat.le_refl _) (λk hk=>by cases hk);have O1:=O.below bS;have bC:=(Below.refl w5 w5).alloc (Nat.le_refl _) (.cells #[Y A5 ev.length c5] 39);have bI:aN.R (w5.alloc (.cells #[Y A5 ev.length c5] 39)) (bm (λb=>b<w.heap.size) (Y A3 n3 c3)) [Y A5 ev.length c5] ev:=
        ⟨A5,c5,rfl,dS (aT ay bC) (λb aG=>by
         rcases aG with aG | aG
         ·have:=a7.size;omega
         ·exact(O.lt aG).2) aH⟩
       clear ay bP g5)
    | (at_builtin;refine a9 _ rfl (.tmp 12) (.tmp 15) 23 rfl aN w 39 j0 y0 24 Tryz.underlying23 aK ba bd a6 bh (by decide) (λb=>b<w.heap.size) (Y A3 n3 c3) (aX.take n3) rfl (O1.below bC) (aj w5) 1 [Y A5 ev.length c5] ev rfl (Src.made w5 _ _) bI (by rw[aW];unfold maxLen;omega) (by rw[aW];omega) (by simp;have:=a7.size;have:=bS.size;omega) ?_;intro A6 bX w6 O6 cz gr aZ))
   rw[aW,<-a4.out]at O6;have aQ:∀k,(Value.slice A3 n3 c3).ownBlock=some k->w.heap.size<=k:=λk hk=>(O.lt hk).1
   go_round
   case rel=>exact⟨n3+1,by go_num,by omega,O6,((a7.trans (bS.mono a7.size)).trans (bC.mono (Nat.le_trans a7.size bS.size))).grown gr (by simp;have:=a7.size;have:=bS.size;omega) aQ⟩
   case measure=>simp[intOf];omega
  ·obtain rfl:i=m:=(by omega);rw[HM.out,List.take_length]at O;clear h;go_wp2;go_ret;exact⟨_,rfl,O,a7⟩
 ):P:=h
theorem hX(S:Nat->Prop)(A:Option Addr)(m c:Nat)(aX:List (List aO))(w:World)(hm:m=aX.length)(bk:m<=100)(h:SliceAt aN w S A aX)(aB:∀e∈aX,e.length<=1000/\∀a∈e,a.fits):
 Calls Tryz.prog 107 #[Y A m c] w λe w'=>∃v,e=.returned v/\aD aN 39 w' w (λb=>b<w.heap.size) v aX/\Below w w w':=by
 have HM:=Lib.hid hm;have HE:=Lib.hid aB;clear hm aB;go_enter Tryz.func107,Tryz.ntmps107;exact tc
theorem qB(S:Nat->Prop)(A:Option Addr)(m c:Nat)(aX:List (List aO))(w:World)(hm:m=aX.length)(bk:m<=100)(h:SliceAt aN w S A aX)(aB:∀e∈aX,e.length<=1000/\∀a∈e,a.fits):
 Calls Tryz.prog 34 #[Y A m c] w λe w'=>∃v,e=.returned v/\aD aN 39 w' w (λb=>b<w.heap.size) v aX/\Below w w w':=by
 have HM:=Lib.hid hm;have HE:=Lib.hid aB;clear hm aB;go_enter Tryz.func34,Tryz.ntmps34;exact tc
end Go.Proofs.YtgblliofomgggaaGreat
