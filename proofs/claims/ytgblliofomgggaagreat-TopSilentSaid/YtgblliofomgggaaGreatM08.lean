import Derived.Test.YtgblliofomgggaaGreatM01
import Derived.Test.YtgblliofomgggaaGreatM05
import Derived.Test.YtgblliofomgggaaGreatM07
namespace Go.Proofs.YtgblliofomgggaaGreat
set_option maxRecDepth 100000
set_option maxHeartbeats 4000000
open Go.RowKit a7 bA
open Go.IntKind renaming i64 -> af,u64 -> ak
open Go.Value renaming int -> I,slice -> Y,pointer -> aL,agg -> aE
section
structure ct where
 entry:ae
 asked:Bool
def ct.cellsOf(t:ct)(A:Option Addr)(c:Nat):List Value:=t.entry.cellsOf A c++[.bool t.asked]
def bg:dD ct:=⟨9,λw S u t=>∃A c,u=t.cellsOf A c/\SliceAt aN w S A t.entry.events,λh=>by
 obtain⟨A,c,rfl,_⟩:=h;rfl,λh v hv=>by
 obtain⟨A,c,rfl,_⟩:=h;simp only[ct.cellsOf,ae.cellsOf,List.cons_append,List.nil_append,List.mem_cons,List.not_mem_nil,or_false]at hv;rcases hv with rfl | rfl | rfl | rfl | rfl | rfl | rfl | rfl | rfl<;>rfl,λh g=>by
 obtain⟨A,c,rfl,h⟩:=h;exact⟨A,c,rfl,h.goes g⟩⟩
section
variable {α:Type}{P:Program}(w:World)
theorem dW{ops:Array Oper}{o:Oper}{a:Act}{K:Act->World->Prop}{Q:Exit->Act->World->Prop}{E:Prop}(ae:o.guard=none)(s x:Operand)(t:TypeId)
 (ho:o.op=.call {callee:=.builtin .append,args:=#[s,x],argTypes:=#[t,t]})
 (r:dD α) (base:Nat) (e:TypeId) (i:TypeInfo) (z:Value) (bytes:Nat) (ht:P.underlying t=some (.slice e)) (hi:P.info? e=some i) (hz:i.zero=some z)
 (M:i.size=r.k) (bR:i.bytes=bytes) (bB:z.cells.size=r.k) (hk:0<r.k)
 (S:Nat->Prop) (v:Value) (l:List α) (hs:a.eval s=v) (J:aD r e w base S v l)
 (A:Option Addr) (c:Nat) (u:List Value) (b:α) (hx:a.eval x=Y A 1 c) (hr:Src w A u) (aI:r.R w (bm S v) u b)
 (af:l.length+1<=maxLen) (I:(l.length+1)*bytes<=140737488355328) (av:base<=w.heap.size)
 (h:∀A' c' w',aD r e w' base S (Y A' (l.length+1) c') (l++[b])->Goes (bm S v) w (bm S (Y A' (l.length+1) c')) w'->w.grownBy w' v.ownBlock->((Value.slice A' (l.length+1) c').ownBlock=v.ownBlock\/(Value.slice A' (l.length+1) c').ownBlock=some w.heap.size)->K (a.put o.dst (Y A' (l.length+1) c')) w'):
 if Region.wanted o (yielded ops a.tmps)=true then Oper.wp P o a w K Q else E:=by
 obtain⟨us,h1,h2,a1⟩:=J;refine ej w ae s x t ho base r.k e i z bytes ht hi hz M bR bB hk v l.length us.flatten hs h1 A 1 c u hx (by rw[r.len aI,Nat.one_mul]) hr (r.one aI) af I av ?_;intro A' c' w' h4 gr ah;have hG:Goes (bm S v) w (bm S (Y A' (l.length+1) c')) w':=⟨gr.os,gr.tape,gr.output,gr.size,λk hk aL=>gr.block k hk (λe=>aL (.inr e.symm)),λk hk hs=>hs.elim .inl (λe=>by
  rcases ah with ah | ah
  ·exact .inr (ah.symm.trans e)
  ·rw[ah]at e;injection e with e;omega)⟩
 refine h A' c' w' ⟨us++[u],?_,by simp[h2],λj u' a' hu ha=>?_⟩ hG gr ah
 ·rw[List.length_append,List.flatten_append];simpa using h4
 ·by_cases hj:j<us.length
  ·rw[List.getElem?_append_left hj]at hu;rw[List.getElem?_append_left (by omega)]at ha;exact r.goes (a1 j u' a' hu ha) hG
  ·have bF:j=us.length:=by
    have:=(List.getElem?_eq_some_iff.1 hu).1;simp at this;omega
   subst bF;rw[List.getElem?_append_right (Nat.le_refl _),Nat.sub_self]at hu;rw[h2,List.getElem?_append_right (Nat.le_refl _),Nat.sub_self]at ha;injection hu with hu;injection ha with ha;subst hu;subst ha;exact r.goes aI hG
end
def ef{α:Type}(p:α->Bool):List α->Nat->Int
 | [],_=> -1
 | x::l,k=>if p x=true then k else ef p l (k+1)
def idxOf{α:Type}(p:α->Bool)(l:List α):Int:=ef p l 0
theorem my{α:Type}(p:α->Bool):∀ (l:List α) (k i:Nat) (h:i<l.length),(l.take i).any p=false->p l[i]=true->ef p l k=((k+i:Nat):Int)
 | [],k,i,h,_,_=>by simp at h
 | x::l,k,0,h,_,h2=>by
  rw[ef,if_pos (show p x=true from h2)];rfl
 | x::l,k,i+1,h,h1,h2=>by
  simp only[List.take_succ_cons,List.any_cons,Bool.or_eq_false_iff]at h1;rw[ef,if_neg (by rw[h1.1];decide),my p l (k+1) i (by simpa using h) h1.2 (by simpa using h2)];congr 1;omega
theorem jW{α:Type}(p:α->Bool):∀ (l:List α) (k:Nat),l.any p=false->ef p l k= -1
 | [],_,_=>rfl
 | x::l,k,h=>by
  simp only[List.any_cons,Bool.or_eq_false_iff]at h;rw[ef,if_neg (by rw[h.1];decide),jW p l (k+1) h.2]
theorem lJ{α:Type}(p:α->Bool)(l:List α)(i:Nat)(h:i<l.length)(h1:(l.take i).any p=false)(h2:p l[i]=true):idxOf p l=(i:Int):=by
 unfold idxOf;rw[my p l 0 i h h1 h2,Nat.zero_add]
theorem mu{α:Type}(p:α->Bool)(l:List α)(h:l.any p=false):idxOf p l= -1:=jW p l 0 h
theorem ji{α:Type}(p:α->Bool):∀ (l:List α) (k:Nat),(l.any p=false/\ef p l k= -1)\/∃ (i:Nat) (h:i<l.length),(l.take i).any p=false/\p l[i]=true/\ef p l k=((k+i:Nat):Int)
 | [],_=>.inl ⟨rfl,rfl⟩
 | x::l,k=>by
  cases hx:p x with
  | true=>exact .inr ⟨0,by simp,rfl,hx,by rw[ef,if_pos hx];rfl⟩
  | false=>
   rcases ji p l (k+1)with⟨h1,h2⟩ | ⟨i,hi,h1,h2,a1⟩
   ·exact .inl ⟨by simp[hx,h1],by rw[ef,if_neg (by rw[hx];decide),h2]⟩
   ·exact .inr ⟨i+1,by simpa using hi,by simp[hx,h1],h2,by rw[ef,if_neg (by rw[hx];decide),a1];congr 1;omega⟩
theorem gW{α:Type}(p:α->Bool)(l:List α):(l.any p=false/\idxOf p l= -1)\/∃ (i:Nat) (h:i<l.length),(l.take i).any p=false/\p l[i]=true/\idxOf p l=(i:Int):=by
 rcases ji p l 0 with h | ⟨i,hi,h1,h2,a1⟩
 ·exact .inl h
 ·exact .inr ⟨i,hi,h1,h2,by rw[Nat.zero_add]at a1;exact a1⟩
theorem ha{α:Type}(p:α->Bool)(l:List α)(i:Nat)(h:i<l.length):(l.take (i+1)).any p=((l.take i).any p || p l[i]):=by
 rw[List.take_succ_eq_append_getElem h,List.any_append];simp
theorem ni{α:Type}(p:α->Bool)(l:List α)(i:Nat)(h:i<l.length)(hp:p l[i]=true):l.any p=true:=List.any_eq_true.2 ⟨_,List.getElem_mem h,hp⟩
theorem hP(l:List ae)(id:PId):l.any (λx=>decide (x.id=id))=bd l id:=rfl
theorem fj{w:World}{cb:Nat}{t:TypeId}{a b c d e f g h i:Value}{l:List Value}(H:ai w cb t (a::b::c::d::e::f::g::h::i::l).toArray):w.cell? (aj cb)=some a/\w.cell? ⟨cb,1,none⟩=some b/\w.cell? ⟨cb,2,none⟩=some c/\w.cell? ⟨cb,3,none⟩=some d/\w.cell? ⟨cb,4,none⟩=some e/\w.cell? ⟨cb,5,none⟩=some f/\w.cell? ⟨cb,6,none⟩=some g/\w.cell? ⟨cb,7,none⟩=some h/\w.cell? ⟨cb,8,none⟩=some i:=by
 refine⟨?_,?_,?_,?_,?_,?_,?_,?_,?_⟩<;>(rw[H.cell];rfl)
theorem yp(a b c d e f:Int)(A:Option Addr)(n m:Nat)(y:Bool):(Program.built Tryz.prog 148 [(0,aE #[ag a,ag b,av c,av d,ag e,av f,aa,Y A n m]),(1,.bool y)]).map Array.toList=some [I af a,I af b,I ak c,I ak d,I af e,I ak f,aa,Y A n m,.bool y]:=by kernel_rfl
theorem lw(a b c d e f:Int)(A:Option Addr)(n m:Nat)(y:Bool)(w:World):(Instr.build 148 #[(0,aE #[ag a,ag b,av c,av d,ag e,av f,aa,Y A n m]),(1,.bool y)]).run Tryz.prog w=.ok (aE #[ag a,ag b,av c,av d,ag e,av f,aa,Y A n m,.bool y]) w:=by
 obtain⟨cs,h1,h2⟩:=Option.map_eq_some_iff.1 (yp a b c d e f A n m y);rw[run_build w 148 _ cs h1];rw[show cs=#[I af a,I af b,I ak c,I ak d,I af e,I ak f,aa,Y A n m,.bool y] from Array.toList_inj.1 h2]
theorem eG(S:Nat->Prop)(A:Option Addr)(n c:Nat)(l:List ct)(w:World)(aL:n=l.length)(hm:n<=1000)(h:SliceAt bg w S A l)(hg:∀x∈l,x.entry.aH):
 Calls Tryz.prog 100 #[Y A n c] w λe w'=>∃v,e=.returned v/\aD bg 148 w' w (λb=>b<w.heap.size) v l/\Below w w w':=by
 obtain⟨i0,z0,bM,bL,bB,bJ,bR⟩:=aS Tryz.oi;have HN:=Lib.hid aL;have HG:=Lib.hid hg;clear aL hg;go_enter Tryz.func100,Tryz.ntmps100;go_wp2_with fail
 go_loopw [3,8] (λv_ i_ wr=>∃i:Nat,i_=I af i/\i<=n/\aD bg 148 wr w (λb=>b<w.heap.size) v_ (l.take i)/\Below w w wr) (λ_ i _=>n- (intOf i).toNat)
 case atStart=>exact⟨0,rfl,by omega,aD.nil _ _ _ _ _,.refl _ _⟩
 case round=>
  obtain⟨i,rfl,hi,O,a7⟩:=hrel;by_cases bA:i<n
  ·have bu:i<l.length:=(by have:=HN.out;omega);have bE:(i:Int)<(n:Int):=(by omega);have aX:=HG.out _ (List.getElem_mem bu);have a4:Hid (l.take (i+1)=l.take i++[l[i]]):=List.take_succ_eq_append_getElem bu;have aW:(l.take i).length=i:=(by rw[List.length_take];omega);obtain⟨b,off,u,rfl,bV,b8,bx,hcell,A2,c8,hu,h2⟩:=(h.below a7).at_ bu (by decide);rw[hu]at hcell;have d0:wr.cell? ⟨b,off+i*9,none⟩=some (I af l[i].entry.kind):=hcell 0 _ rfl;have d1:wr.cell? ⟨b,off+i*9+1,none⟩=some (I af l[i].entry.id.au):=hcell 1 _ rfl;have d2:wr.cell? ⟨b,off+i*9+2,none⟩=some (I ak l[i].entry.id.aq):=hcell 2 _ rfl;have d3:wr.cell? ⟨b,off+i*9+3,none⟩=some (I ak l[i].entry.id.ax):=hcell 3 _ rfl;have d4:wr.cell? ⟨b,off+i*9+4,none⟩=some (I af l[i].entry.ah):=hcell 4 _ rfl;have d5:wr.cell? ⟨b,off+i*9+5,none⟩=some (I ak l[i].entry.sub):=hcell 5 _ rfl;have d6:wr.cell? ⟨b,off+i*9+6,none⟩=some (aa):=hcell 6 _ rfl;have d7:wr.cell? ⟨b,off+i*9+7,none⟩=some (Y A2 l[i].entry.events.length c8):=hcell 7 _ rfl;have d8:wr.cell? ⟨b,off+i*9+8,none⟩=some (.bool l[i].asked):=hcell 8 _ rfl;obtain⟨x,hx⟩:=am (l[i]);rw[<-hx]at d0 d1 d2 d3 d4 d5 d7 d8 h2 aX a4;obtain⟨A3,n3,c3,rfl,a2,bY⟩:=O.form;have e3:n3=i:=(by rw[a2.out,aW]);subst e3;obtain⟨w1,aN⟩:=am (wr.alloc (.cells (gJ x.entry A2 x.entry.events.length c8 x.asked) 148));have b1:=aV aN;have bD:ai w1 wr 148 (gJ x.entry A2 x.entry.events.length c8 x.asked):=(by rw[aN];exact ai.made _ _ _);obtain⟨xb,a0⟩:=am wr.heap.size;rw[<-a0]at bD;have bj:=Lib.hid a0;have wh:=iT S x.entry A2 c8 w1.drew ((h2.below b1).fX) aX.lays.1 aX.lays.2
   unfold ae.cellsOf at wh;have aR:=Lib.hid aX;clear hcell bx hu hx h2 aX a0;go_wp2_with fail;rw[<-aN,<-bj.out];clear aN;refine wp_region_held_drew (S:=(λw'=>w'.cell? (aj xb)=some (I af x.entry.kind)/\w'.cell? ⟨xb,1,none⟩=some (I af x.entry.id.au)/\w'.cell? ⟨xb,2,none⟩=some (I ak x.entry.id.aq)/\w'.cell? ⟨xb,3,none⟩=some (I ak x.entry.id.ax)/\w'.cell? ⟨xb,4,none⟩=some (I af x.entry.ah)/\w'.cell? ⟨xb,5,none⟩=some (I ak x.entry.sub)/\w'.cell? ⟨xb,6,none⟩=some (aa)/\w'.cell? ⟨xb,7,none⟩=some (Y A2 x.entry.events.length c8)/\w'.cell? ⟨xb,8,none⟩=some (.bool x.asked))) (by kernel_rfl) (fj bD) (λJ=>?_);refine tk 0 J ?_;refine tk 1 J ?_;refine tk 2 J ?_;refine tk 4 J ?_;refine tk 5 J ?_;refine aP 3 (λK ad=>?_);clear J;go_simp;refine wh.mono ?_;clear wh;rintro e w2 ⟨A4,c4,rfl,h4,b2⟩;have b2:=a8 b2;have aA:=bD.below b2 bD.lt
   try dsimp only
   refine ad.out _ _ (fj aA) (λJ=>?_);clear ad K;refine aP 6 (λK ad=>?_);clear J;have bF:=λw=>lw x.entry.kind x.entry.id.au x.entry.id.aq x.entry.id.ax x.entry.ah x.entry.sub A4 x.entry.events.length c4 x.asked w
   go_simp;refine ad.out _ _ (fj aA) (λJ=>?_);clear ad K;have aK:=b1.trans (b2.mono b1.size);have O1:=O.below aK;have bC:=(Below.refl w2 w2).alloc (Nat.le_refl _) (.cells (gJ x.entry A4 x.entry.events.length c4 x.asked) 148);have aT:=aA.below bC aA.lt;have bI:bg.R (w2.alloc (.cells (gJ x.entry A4 x.entry.events.length c4 x.asked) 148)) (bm (λb=>b<w.heap.size) (Y A3 n3 c3)) (gJ x.entry A4 x.entry.events.length c4 x.asked) x:=
    ⟨A4,c4,rfl,(h4.below bC).weak (λb aG=>by
     have e1:=b1.size;show b<w1.heap.size;rcases aG with aG | aG
     ·have:=a7.size;omega
     ·have:=(O.lt aG).2;omega)⟩
   refine aP 7 (λK ad=>?_);clear J;go_simp;refine ad.out _ _ (fj aT) (λJ=>?_);clear ad K;refine aP 8 (λK ad=>?_);clear J;refine dW _ rfl (.tmp 12) (.tmp 19) 124 rfl bg w 148 i0 z0 104 Tryz.underlying124 bM bL bJ bR bB (by decide) (λb=>b<w.heap.size) (Y A3 n3 c3) (l.take n3) (by rfl) (O1.below bC) (aj w2) 1 (gJ x.entry A4 x.entry.events.length c4 x.asked) x (by rfl) (Src.made w2 _ _) bI (by rw[aW];unfold maxLen;omega) (by rw[aW];omega) (by simp;have:=a7.size;have:=aK.size;omega) ?_;intro A6 bX w6 O6 cz gr aZ;have bZ:=aT.grown gr (λe=>by have:=(O.lt e.symm).2;have:=bj.out;omega);refine ad.out _ _ (fj bZ) (λJ=>?_);clear ad K;refine aP 9 (λK ad=>?_);clear J;go_simp;refine ad.out _ _ (fj bZ) (λJ=>?_);clear ad K;refine cB ?_ _;rw[aW,<-a4.out]at O6;have aQ:∀k,(Value.slice A3 n3 c3).ownBlock=some k->w.heap.size<=k:=λk hk=>(O.lt hk).1
   try rw[aW]
   go_wp2
   go_round
   case rel=>exact⟨n3+1,by go_num,by omega,O6,((a7.trans (aK.mono a7.size)).trans (bC.mono (Nat.le_trans a7.size aK.size))).grown gr (by simp;have:=a7.size;have:=aK.size;omega) aQ⟩
   case measure=>simp[intOf];omega
  ·obtain rfl:i=n:=(by omega);rw[HN.out,List.take_length]at O;clear h;go_wp2;go_ret;exact⟨_,rfl,O,a7⟩
end
def hg(w:World)(b o:Nat)(id:PId):Prop:=w.cell? ⟨b,o,none⟩=some (I af id.au)/\w.cell? ⟨b,o+1,none⟩=some (I ak id.aq)/\w.cell? ⟨b,o+2,none⟩=some (I ak id.ax)
theorem hg.below{w w':World}{b o:Nat}{id:PId}(h:hg w b o id)(a7:Below w w w'):hg w' b o id:=
 ⟨(a7.cell (p:=⟨b,o,none⟩) (World.block_lt_of_cell? w _ h.1)).trans h.1,(a7.cell (p:=⟨b,o+1,none⟩) (World.block_lt_of_cell? w _ h.2.1)).trans h.2.1,(a7.cell (p:=⟨b,o+2,none⟩) (World.block_lt_of_cell? w _ h.2.2)).trans h.2.2⟩
def Real(K:Nat):Prop:=∀ (args:Array Value) (w:World),(callFunc K args).run Tryz.prog w=.ok (.enter K args) w
theorem bW{f:Nat}{fn:Func}(hf:Tryz.prog.funcs[f]? =some fn)(I:(fn.name== "runtime.NumGoroutine")=false)(a7:fn.body.isSome=true):Real f:=λargs w=>by
 have h1:fn.name≠ "runtime.NumGoroutine" :=by simpa using I
 obtain⟨c,hc⟩:=Option.isSome_iff_exists.1 a7;simp[callFunc,hf,h1,hc]
theorem Ah:Real 183:=bW Tryz.func183 (by kernel_rfl) (by kernel_rfl)
theorem y9:Real 194:=bW Tryz.func194 (by kernel_rfl) (by kernel_rfl)
theorem yX:Real 206:=bW Tryz.func206 (by kernel_rfl) (by kernel_rfl)
theorem yN:Real 218:=bW Tryz.func218 (by kernel_rfl) (by kernel_rfl)
theorem zR:Real 295:=bW Tryz.func295 (by kernel_rfl) (by kernel_rfl)
theorem yG:Real 305:=bW Tryz.func305 (by kernel_rfl) (by kernel_rfl)
theorem uF(x:ct)(A:Option Addr)(c:Nat)(id:PId)(cb:Nat)(w:World)(h:hg w cb 0 id):
 Calls Tryz.prog 183 #[aE (x.cellsOf A c).toArray,aj cb] w λe w'=>e=.returned (.bool (decide (x.entry.id=id)))/\Below w w w':=by
 have heq:=λw=>lG x.entry.id id w
 obtain⟨r,hr⟩:=am (decide (x.entry.id=id));rw[<-hr]at heq ⊢;unfold PId.val at heq;unfold ct.cellsOf ae.cellsOf
 try simp only[List.cons_append,List.nil_append]
 have bA:cb<w.heap.size:=World.block_lt_of_cell? w _ h.1;obtain⟨h1,h2,a1⟩:=h;simp only[Nat.zero_add]at h1 h2 a1;clear hr;go_enter Tryz.func183,Tryz.ntmps183;go_wp2;go_ret;exact⟨rfl,(Below.refl _ _).alloc (Nat.le_refl _) _⟩
theorem q3(x:ae)(A:Option Addr)(c:Nat)(id:PId)(cb:Nat)(w:World)(h:hg w cb 0 id):
 Calls Tryz.prog 194 #[aE (x.cellsOf A c).toArray,aj cb] w λe w'=>e=.returned (.bool (decide (x.id=id)))/\Below w w w':=by
 have heq:=λw=>lG x.id id w;obtain⟨r,hr⟩:=am (decide (x.id=id));rw[<-hr]at heq ⊢;unfold PId.val at heq;unfold ae.cellsOf
 try simp only[List.cons_append,List.nil_append]
 have bA:cb<w.heap.size:=World.block_lt_of_cell? w _ h.1;obtain⟨h1,h2,a1⟩:=h;simp only[Nat.zero_add]at h1 h2 a1;clear hr;go_enter Tryz.func194,Tryz.ntmps194;go_wp2;go_ret;exact⟨rfl,(Below.refl _ _).alloc (Nat.le_refl _) _⟩
theorem tj(x:ae)(A:Option Addr)(c:Nat)(id:PId)(cb:Nat)(w:World)(h:hg w cb 1 id):
 Calls Tryz.prog 206 #[aE (x.cellsOf A c).toArray,aj cb] w λe w'=>e=.returned (.bool (decide (x.id=id)))/\Below w w w':=by
 have heq:=λw=>lG x.id id w;obtain⟨r,hr⟩:=am (decide (x.id=id));rw[<-hr]at heq ⊢;unfold PId.val at heq;unfold ae.cellsOf
 try simp only[List.cons_append,List.nil_append]
 have bA:cb<w.heap.size:=World.block_lt_of_cell? w _ h.1;obtain⟨h1,h2,a1⟩:=h;simp only[Nat.reduceAdd]at h1 h2 a1;clear hr;go_enter Tryz.func206,Tryz.ntmps206;go_wp2;go_ret;exact⟨rfl,(Below.refl _ _).alloc (Nat.le_refl _) _⟩
theorem uV(x:ae)(A:Option Addr)(c:Nat)(id:PId)(cb:Nat)(w:World)(h:hg w cb 1 id):
 Calls Tryz.prog 218 #[aE (x.cellsOf A c).toArray,aj cb] w λe w'=>e=.returned (.bool (decide (x.id=id)))/\Below w w w':=by
 have heq:=λw=>lG x.id id w;obtain⟨r,hr⟩:=am (decide (x.id=id));rw[<-hr]at heq ⊢;unfold PId.val at heq;unfold ae.cellsOf
 try simp only[List.cons_append,List.nil_append]
 have bA:cb<w.heap.size:=World.block_lt_of_cell? w _ h.1;obtain⟨h1,h2,a1⟩:=h;simp only[Nat.reduceAdd]at h1 h2 a1;clear hr;go_enter Tryz.func218,Tryz.ntmps218;go_wp2;go_ret;exact⟨rfl,(Below.refl _ _).alloc (Nat.le_refl _) _⟩
theorem rh(x:ae)(A:Option Addr)(c:Nat)(id:PId)(cb:Nat)(w:World)(h:hg w cb 0 id):
 Calls Tryz.prog 295 #[aE (x.cellsOf A c).toArray,aj cb] w λe w'=>e=.returned (.bool (decide (x.id=id)))/\Below w w w':=by
 have heq:=λw=>lG x.id id w;obtain⟨r,hr⟩:=am (decide (x.id=id));rw[<-hr]at heq ⊢;unfold PId.val at heq;unfold ae.cellsOf
 try simp only[List.cons_append,List.nil_append]
 have bA:cb<w.heap.size:=World.block_lt_of_cell? w _ h.1;obtain⟨h1,h2,a1⟩:=h;simp only[Nat.zero_add]at h1 h2 a1;clear hr;go_enter Tryz.func295,Tryz.ntmps295;go_wp2;go_ret;exact⟨rfl,(Below.refl _ _).alloc (Nat.le_refl _) _⟩
theorem tl(x:ae)(A:Option Addr)(c:Nat)(id:PId)(cb:Nat)(w:World)(h:hg w cb 0 id):
 Calls Tryz.prog 305 #[aE (x.cellsOf A c).toArray,aj cb] w λe w'=>e=.returned (.bool (decide (x.id=id)))/\Below w w w':=by
 have heq:=λw=>lG x.id id w;obtain⟨r,hr⟩:=am (decide (x.id=id));rw[<-hr]at heq ⊢;unfold PId.val at heq;unfold ae.cellsOf
 try simp only[List.cons_append,List.nil_append]
 have bA:cb<w.heap.size:=World.block_lt_of_cell? w _ h.1;obtain⟨h1,h2,a1⟩:=h;simp only[Nat.zero_add]at h1 h2 a1;clear hr;go_enter Tryz.func305,Tryz.ntmps305;go_wp2;go_ret;exact⟨rfl,(Below.refl _ _).alloc (Nat.le_refl _) _⟩
theorem sk{P:Prop}(h:P:=by
 have HE:Hid (r= -1):=by
  show r= -1;rw[HR.out,mu p l (by have:=HA.out;rwa [HN.out,List.take_length]at this)]
 go_wp2;go_ret;exact⟨by rw[HE.out];rfl,a7⟩
 ):P:=h
theorem uy(K cb:Nat)(p:ct->Bool)(S:Nat->Prop)(A:Option Addr)(n c:Nat)(l:List ct)(w:World)(ad:Real K)(aL:n=l.length)(hm:n<=1000000)(h:SliceAt bg w S A l)
 (hf:∀x∈l,∀ (A:Option Addr) (c:Nat) (w':World),Below w w w'->SliceAt aN w' S A x.entry.events->Calls Tryz.prog K #[aE (x.cellsOf A c).toArray,aj cb] w' λe w''=>e=.returned (.bool (p x))/\Below w' w' w''):
 Calls Tryz.prog 182 #[Y A n c,.func (.func K) #[] #[aj cb]] w λe w'=>e=.returned (ag (idxOf p l))/\Below w w w':=by
 have HN:=Lib.hid aL;have HF:=Lib.hid hf;have bZ:∀ (args:Array Value) (w:World),(callFunc K args).run Tryz.prog w=.ok (.enter K args) w:=ad;obtain⟨r,hr⟩:=am (idxOf p l);rw[<-hr];have HR:=Lib.hid hr;clear aL hf hr;go_enter Tryz.func182,Tryz.ntmps182;go_wp2_with fail
 go_loopw [8] (λi_ wr=>∃i:Nat,i_=I af i/\i<=n/\Hid ((l.take i).any p=false)/\Below w w wr) (λi _=>n- (intOf i).toNat)
 case atStart=>exact⟨0,rfl,by omega,(rfl:_=_),.refl _ _⟩
 case round=>
  obtain⟨i,rfl,hi,HA,a7⟩:=hrel;by_cases bA:i<n
  ·have bu:i<l.length:=(by have:=HN.out;omega);have bE:(i:Int)<(n:Int):=(by omega);have J:=Lib.hid (ha p l i bu);have ao:Hid (p l[i]=true->r=(i:Int)):=λe=>HR.out.trans (lJ p l i bu HA.out e);obtain⟨b,off,u,rfl,bV,b8,bx,hcell,A2,c8,hu,h2⟩:=(h.below a7).at_ bu (by decide);rw[hu]at hcell;have d0:wr.cell? ⟨b,off+i*9,none⟩=some (I af l[i].entry.kind):=hcell 0 _ rfl;have d1:wr.cell? ⟨b,off+i*9+1,none⟩=some (I af l[i].entry.id.au):=hcell 1 _ rfl;have d2:wr.cell? ⟨b,off+i*9+2,none⟩=some (I ak l[i].entry.id.aq):=hcell 2 _ rfl;have d3:wr.cell? ⟨b,off+i*9+3,none⟩=some (I ak l[i].entry.id.ax):=hcell 3 _ rfl;have d4:wr.cell? ⟨b,off+i*9+4,none⟩=some (I af l[i].entry.ah):=hcell 4 _ rfl;have d5:wr.cell? ⟨b,off+i*9+5,none⟩=some (I ak l[i].entry.sub):=hcell 5 _ rfl;have d6:wr.cell? ⟨b,off+i*9+6,none⟩=some (aa):=hcell 6 _ rfl;have d7:wr.cell? ⟨b,off+i*9+7,none⟩=some (Y A2 l[i].entry.events.length c8):=hcell 7 _ rfl;have d8:wr.cell? ⟨b,off+i*9+8,none⟩=some (.bool l[i].asked):=hcell 8 _ rfl;obtain⟨x,hx⟩:=am (l[i]);have bc:=HF.out x (by rw[hx];exact List.getElem_mem bu) A2 c8 wr a7 (by rw[hx];exact h2);rw[<-hx]at d0 d1 d2 d3 d4 d5 d7 d8 J ao;unfold ct.cellsOf ae.cellsOf at bc
   try simp only[List.cons_append,List.nil_append]at bc
   clear hcell bx hu hx h2;go_wp2_with fail;refine bc.mono ?_;clear bc;rintro e w2 ⟨rfl,b2⟩;cases hp:p x with
   | true=>
    have HE:Hid (r=(i:Int)):=ao.out hp;clear hp;go_wp2;go_ret;exact⟨by rw[HE.out];rfl,a7.trans (b2.mono a7.size)⟩
   | false=>
    have HE:Hid ((l.take (i+1)).any p=false):=by
     show _=false;rw[J.out,HA.out,hp];rfl
    clear hp;go_wp2
    go_round
    case rel=>exact⟨i+1,by go_num,by omega,HE,a7.trans (b2.mono a7.size)⟩
    case measure=>simp[intOf];omega
  ·obtain rfl:i=n:=(by omega);exact sk
theorem n5(K cb:Nat)(p:ae->Bool)(S:Nat->Prop)(A:Option Addr)(n c:Nat)(l:List ae)(w:World)(ad:Real K)(aL:n=l.length)(hm:n<=1000000)(h:SliceAt aB w S A l)
 (hf:∀x∈l,∀ (A:Option Addr) (c:Nat) (w':World),Below w w w'->SliceAt aN w' S A x.events->Calls Tryz.prog K #[aE (x.cellsOf A c).toArray,aj cb] w' λe w''=>e=.returned (.bool (p x))/\Below w' w' w''):
 Calls Tryz.prog 246 #[Y A n c,.func (.func K) #[] #[aj cb]] w λe w'=>e=.returned (ag (idxOf p l))/\Below w w w':=by
 have HN:=Lib.hid aL;have HF:=Lib.hid hf;have bZ:∀ (args:Array Value) (w:World),(callFunc K args).run Tryz.prog w=.ok (.enter K args) w:=ad;obtain⟨r,hr⟩:=am (idxOf p l);rw[<-hr];have HR:=Lib.hid hr;clear aL hf hr;go_enter Tryz.func246,Tryz.ntmps246;go_wp2_with fail
 go_loopw [8] (λi_ wr=>∃i:Nat,i_=I af i/\i<=n/\Hid ((l.take i).any p=false)/\Below w w wr) (λi _=>n- (intOf i).toNat)
 case atStart=>exact⟨0,rfl,by omega,(rfl:_=_),.refl _ _⟩
 case round=>
  obtain⟨i,rfl,hi,HA,a7⟩:=hrel;by_cases bA:i<n
  ·have bu:i<l.length:=(by have:=HN.out;omega);have bE:(i:Int)<(n:Int):=(by omega);have J:=Lib.hid (ha p l i bu);have ao:Hid (p l[i]=true->r=(i:Int)):=λe=>HR.out.trans (lJ p l i bu HA.out e);obtain⟨b,off,u,rfl,bV,b8,bx,hcell,A2,c8,hu,h2⟩:=(h.below a7).at_ bu (by decide);rw[hu]at hcell;have d0:wr.cell? ⟨b,off+i*8,none⟩=some (I af l[i].kind):=hcell 0 _ rfl;have d1:wr.cell? ⟨b,off+i*8+1,none⟩=some (I af l[i].id.au):=hcell 1 _ rfl;have d2:wr.cell? ⟨b,off+i*8+2,none⟩=some (I ak l[i].id.aq):=hcell 2 _ rfl;have d3:wr.cell? ⟨b,off+i*8+3,none⟩=some (I ak l[i].id.ax):=hcell 3 _ rfl;have d4:wr.cell? ⟨b,off+i*8+4,none⟩=some (I af l[i].ah):=hcell 4 _ rfl;have d5:wr.cell? ⟨b,off+i*8+5,none⟩=some (I ak l[i].sub):=hcell 5 _ rfl;have d7:wr.cell? ⟨b,off+i*8+7,none⟩=some (Y A2 l[i].events.length c8):=hcell 7 _ rfl;have d6:wr.cell? ⟨b,off+i*8+6,none⟩=some aa:=hcell 6 _ rfl;obtain⟨x,hx⟩:=am (l[i]);have bc:=HF.out x (by rw[hx];exact List.getElem_mem bu) A2 c8 wr a7 (by rw[hx];exact h2);rw[<-hx]at d0 d1 d2 d3 d4 d5 d7 J ao;unfold ae.cellsOf at bc
   try simp only[List.cons_append,List.nil_append]at bc
   clear hcell bx hu hx h2;go_wp2_with fail;refine bc.mono ?_;clear bc;rintro e w2 ⟨rfl,b2⟩;cases hp:p x with
   | true=>
    have HE:Hid (r=(i:Int)):=ao.out hp;clear hp;go_wp2;go_ret;exact⟨by rw[HE.out];rfl,a7.trans (b2.mono a7.size)⟩
   | false=>
    have HE:Hid ((l.take (i+1)).any p=false):=by
     show _=false;rw[J.out,HA.out,hp];rfl
    clear hp;go_wp2
    go_round
    case rel=>exact⟨i+1,by go_num,by omega,HE,a7.trans (b2.mono a7.size)⟩
    case measure=>simp[intOf];omega
  ·obtain rfl:i=n:=(by omega);exact sk
theorem gy(K cb:Nat)(p:ae->Bool)(S:Nat->Prop)(A:Option Addr)(n c:Nat)(l:List ae)(w:World)(ad:Real K)(aL:n=l.length)(hm:n<=1000000)(h:SliceAt aB w S A l)
 (hf:∀x∈l,∀ (A:Option Addr) (c:Nat) (w':World),Below w w w'->SliceAt aN w' S A x.events->Calls Tryz.prog K #[aE (x.cellsOf A c).toArray,aj cb] w' λe w''=>e=.returned (.bool (p x))/\Below w' w' w''):
 Calls Tryz.prog 205 #[Y A n c,.func (.func K) #[] #[aj cb]] w λe w'=>e=.returned (.bool (l.any p))/\Below w w w':=by
 have J:=n5 K cb p S A n c l w ad aL hm h hf;clear h hf aL;rcases gW p l with⟨h1,h2⟩ | ⟨i,hi,h1,h2,a1⟩
 ·rw[h2]at J;rw[h1];clear h1 h2;go_enter Tryz.func205,Tryz.ntmps205;go_wp2_with fail;refine J.mono ?_;clear J;rintro e w1 ⟨rfl,b1⟩;go_wp2;go_ret;exact⟨rfl,b1⟩
 ·rw[a1]at J;rw[ni p l i hi h2];clear h1 h2 a1 hi;go_enter Tryz.func205,Tryz.ntmps205;go_wp2_with fail;refine J.mono ?_;clear J;rintro e w1 ⟨rfl,b1⟩;have g:decide ((0:Int)<=(i:Int))=true:=decide_eq_true (by omega);go_wp2;go_ret;exact⟨by first | rfl | simp,b1⟩
theorem nG{P:Prop}(h:P:=by
 go_wp2_with fail;rw[<-ar,<-aF.out];clear ar;refine cM.mono ?_;clear cM;rintro e w1 ⟨rfl,b1⟩;go_wp2;go_ret;exact⟨rfl,aU.trans (b1.mono aU.size)⟩
 ):P:=h
theorem o1(S:Nat->Prop)(A:Option Addr)(n c:Nat)(l:List ae)(id:PId)(w:World)(aL:n=l.length)(hm:n<=1000000)(h:SliceAt aB w S A l):
 Calls Tryz.prog 252 #[Y A n c,id.val] w λe w'=>e=.returned (.bool (bd l id))/\Below w w w':=by
 unfold PId.val;obtain⟨w0,ar⟩:=am (w.alloc (.cells (bY id) 32));have hC:ai w0 w 32 (bY id):=by rw[ar];exact ai.made _ _ _
 have aU:=aV ar;obtain⟨cb,M⟩:=am w.heap.size;rw[<-M]at hC;have aF:=Lib.hid M;clear M;have hI:hg w0 cb 0 id:=⟨hC.cell 0,hC.cell 1,hC.cell 2⟩;have cM:=gy 295 cb (λx=>decide (x.id=id)) S A n c l w0 zR aL hm (h.below aU) (λx _ A c w' a7 _=>rh x A c id cb w' (hI.below a7));rw[hP]at cM;clear h aL hI;go_enter Tryz.func252,Tryz.ntmps252;exact nG
theorem q7(S:Nat->Prop)(A:Option Addr)(n c:Nat)(l:List ae)(id:PId)(w:World)(aL:n=l.length)(hm:n<=1000000)(h:SliceAt aB w S A l):
 Calls Tryz.prog 275 #[Y A n c,id.val] w λe w'=>e=.returned (.bool (bd l id))/\Below w w w':=by
 unfold PId.val;obtain⟨w0,ar⟩:=am (w.alloc (.cells (bY id) 32));have hC:ai w0 w 32 (bY id):=by rw[ar];exact ai.made _ _ _
 have aU:=aV ar;obtain⟨cb,M⟩:=am w.heap.size;rw[<-M]at hC;have aF:=Lib.hid M;clear M;have hI:hg w0 cb 0 id:=⟨hC.cell 0,hC.cell 1,hC.cell 2⟩;have cM:=gy 305 cb (λx=>decide (x.id=id)) S A n c l w0 yG aL hm (h.below aU) (λx _ A c w' a7 _=>tl x A c id cb w' (hI.below a7));rw[hP]at cM;clear h aL hI;go_enter Tryz.func275,Tryz.ntmps275;exact nG
def dj(l:List ct)(id:PId):Int:=idxOf (λx:ct=>decide (x.entry.id=id)) l
theorem iv(S:Nat->Prop)(A:Option Addr)(n c:Nat)(l:List ct)(id:PId)(w:World)(aL:n=l.length)(hm:n<=1000000)(h:SliceAt bg w S A l):
 Calls Tryz.prog 121 #[Y A n c,id.val] w λe w'=>e=.returned (ag (dj l id))/\Below w w w':=by
 unfold PId.val;obtain⟨w0,ar⟩:=am (w.alloc (.cells (bY id) 32));have hC:ai w0 w 32 (bY id):=by rw[ar];exact ai.made _ _ _
 have aU:=aV ar;obtain⟨cb,M⟩:=am w.heap.size;rw[<-M]at hC;have aF:=Lib.hid M;clear M;have hI:hg w0 cb 0 id:=⟨hC.cell 0,hC.cell 1,hC.cell 2⟩;have cM:=uy 183 cb (λx:ct=>decide (x.entry.id=id)) S A n c l w0 Ah aL hm (h.below aU) (λx _ A c w' a7 _=>uF x A c id cb w' (hI.below a7));clear h aL hI;go_enter Tryz.func121,Tryz.ntmps121;exact nG
section
theorem aD.wide{α:Type}{r:dD α}{e:TypeId}{w:World}{base:Nat}{S S':Nat->Prop}{v:Value}{l:List α}(h:aD r e w base S v l)(hs:∀b,b<w.heap.size->S' b->S b):aD r e w base S' v l:=by
 obtain⟨us,h1,h2,a1⟩:=h;exact⟨us,h1,h2,λi u a hu ha=>r.goes (a1 i u a hu ha) ⟨rfl,rfl,rfl,Nat.le_refl _,λ_ _ _=>rfl,λb a7 au=>au.elim (λe=>.inl (hs b a7 e)) .inr⟩⟩
structure cu (w:World) (base:Nat) (S:Nat->Prop) (vL vP:Value) (l p:List ae):Prop where
 L:aD aB 132 w base (λb=>S b\/vP.ownBlock=some b) vL l
 P:aD aB 132 w base (λb=>S b\/vL.ownBlock=some b) vP p
 ne:∀b,vL.ownBlock=some b->vP.ownBlock≠some b
 sL:∀b,vL.ownBlock=some b->¬S b
 sP:∀b,vP.ownBlock=some b->¬S b
structure er (w wr:World) (tb rb q:Nat) (arg:Array Value) (aq:Nat) (vL vP:Value):Prop where
 bt:ai wr tb 49 arg
 br:ai wr rb 49 (bp 0 aa aa)
 bq:ai wr q 49 (bp aq vL vP)
 b:Below w w wr
 h0:w.heap.size<=tb
 h1:tb<rb
 h2:rb<q
section
variable {w wr w':World}{tb rb q aq:Nat}{arg:Array Value}{vL vP:Value}
theorem er.below(h:er w wr tb rb q arg aq vL vP)(a7:Below wr wr w'):er w w' tb rb q arg aq vL vP:=
 ⟨h.bt.below a7 h.bt.lt,h.br.below a7 h.br.lt,h.bq.below a7 h.bq.lt,h.b.trans (a7.mono h.b.size),h.h0,h.h1,h.h2⟩
theorem er.grown{row:Option Nat}(h:er w wr tb rb q arg aq vL vP)(g:wr.grownBy w' row)(hr:∀k,row=some k->q<k):er w w' tb rb q arg aq vL vP:=
 ⟨h.bt.grown g (λe=>by have:=hr _ e.symm;have:=h.h1;have:=h.h2;omega),h.br.grown g (λe=>by have:=hr _ e.symm;have:=h.h2;omega),h.bq.grown g (λe=>by have:=hr _ e.symm;omega),h.b.grown g h.b.size (λk e=>by have:=hr _ e;have:=h.h0;have:=h.h1;have:=h.h2;omega),h.h0,h.h1,h.h2⟩
theorem er.Dm(h:er w wr tb rb q arg aq vL vP)(u:Value):er w (wr.setCell ⟨q,1,none⟩ u) tb rb q arg aq u vP:=
 ⟨h.bt.dA (by have:=h.h1;have:=h.h2;show tb≠q;omega) u,h.br.dA (by have:=h.h2;show rb≠q;omega) u,by simpa using h.bq.put 1 u,h.b.setCell (p:=⟨q,1,none⟩) (by have:=h.h0;have:=h.h1;have:=h.h2;show w.heap.size<=q;omega) u,h.h0,h.h1,h.h2⟩
theorem er.C8(h:er w wr tb rb q arg aq vL vP)(u:Value):er w (wr.setCell ⟨q,2,none⟩ u) tb rb q arg aq vL u:=
 ⟨h.bt.dA (by have:=h.h1;have:=h.h2;show tb≠q;omega) u,h.br.dA (by have:=h.h2;show rb≠q;omega) u,by simpa using h.bq.put 2 u,h.b.setCell (p:=⟨q,2,none⟩) (by have:=h.h0;have:=h.h1;have:=h.h2;show w.heap.size<=q;omega) u,h.h0,h.h1,h.h2⟩
theorem aD.put{α:Type}{r:dD α}{e:TypeId}{base:Nat}{S:Nat->Prop}{v:Value}{l:List α}(h:aD r e w base S v l){g:Nat}(hg:S g)(hv:v.ownBlock≠some g)(i:Nat)(u:Value):aD r e (w.setCell ⟨g,i,none⟩ u) base S v l:=by
 obtain⟨us,h1,h2,a1⟩:=h;have g1:Goes (λb=>b=g) w (λb=>b=g) (w.setCell ⟨g,i,none⟩ u):=aJ (aR w g i u) rfl;have g2:Goes S w S (w.setCell ⟨g,i,none⟩ u):=aJ (aR w g i u) hg;exact⟨us,cS h1 g1 (λb a7 e=>hv (by rw[a7,show b=g from e])),h2,λi u a hu ha=>r.goes (a1 i u a hu ha) (g2.plus v)⟩
end
theorem dN{w:World}{cb:Nat}{t:TypeId}{a b c d e f g h:Value}{l:List Value}(H:ai w cb t (a::b::c::d::e::f::g::h::l).toArray):w.cell? (aj cb)=some a/\w.cell? ⟨cb,1,none⟩=some b/\w.cell? ⟨cb,2,none⟩=some c/\w.cell? ⟨cb,3,none⟩=some d/\w.cell? ⟨cb,4,none⟩=some e/\w.cell? ⟨cb,5,none⟩=some f/\w.cell? ⟨cb,6,none⟩=some g/\w.cell? ⟨cb,7,none⟩=some h:=by
 refine⟨?_,?_,?_,?_,?_,?_,?_,?_⟩<;>(rw[H.cell];rfl)
theorem Al(a:Int):(Program.built Tryz.prog 49 [(0,I ak a),(3,aa)]).map Array.toList=some [I ak a,aa,aa,aa]:=by kernel_rfl
theorem zy(a:Int)(w:World):(Instr.build 49 #[(0,I ak a),(3,aa)]).run Tryz.prog w=.ok (bp a aa aa) w:=by
 obtain⟨cs,h1,h2⟩:=Option.map_eq_some_iff.1 (Al a);rw[run_build w 49 _ cs h1];rw[show cs=#[I ak a,aa,aa,aa] from Array.toList_inj.1 h2]
theorem Aj{P:Prop}(h:P:=by
 refine ad.out _ _ (dN aT) (λJ=>?_);clear ad K;refine aP 5 (λK ad=>?_);clear J;refine dW _ rfl (.tmp 37) (.tmp 40) 46 rfl aB (B1) 132 i0 z0 96 Tryz.underlying46 bM bL bJ bR bB (by decide) (λb=>b<B1) (Y A3 n3 c3) (p.take n3) (by rfl) (O1.below bC) (aj w2) 1 (a3 x A4 c4) x (by rfl) (Src.made w2 _ _) bI (by rw[aW];unfold maxLen;omega) (by rw[aW];omega) (by simp;have:=aK.size;omega) ?_;intro A6 bX w6 O6 cz gr aZ;have bZ:=aT.grown gr (λe=>by have:=(O.lt e.symm).2;have:=bj.out;omega);have C6:=((C1.below b2).below bC).grown gr (λk hk=>by have:=(O.lt hk).1;omega);have k6:=C6.bq.cell 2;have f6:=C6.bq.free 2;simp at k6;refine ad.out _ _ (dN bZ) (λJ=>?_);clear ad K;refine tk 6 J ?_;refine aP 7 (λK ad=>?_);clear J;go_simp;refine ad.out _ _ (dN (bZ.dA (by show xb≠q;omega) _)) (λJ=>?_);clear ad K;refine cB ?_ _;rw[aW,<-a4.out]at O6
 try rw[aW]
 have C7:=C6.C8 (Y A6 (n3+1) bX);have aQ:∀k,(Value.slice A3 n3 c3).ownBlock=some k->B1<=k:=λk hk=>(O.lt hk).1;have O7:=O6.put (g:=q) (show q<B1 by omega) (λe=>by have:=(O6.lt e).1;omega) 2 (Y A6 (n3+1) bX);have bk:B1<=w6.heap.size:=Nat.le_trans (by simp;have:=aK.size;omega:B1<=(w2.alloc (.cells (a3 x A4 c4) 132)).heap.size) gr.size;have bN:=(OL.below aK).below bC;have bP:aD aB 132 w6 (q+1) (λb=>b<q+1\/B1<=b) vL l:=by
  cases M:(Value.slice A3 n3 c3).ownBlock with
  | none=>
   rw[M]at gr;exact bN.goes ⟨gr.os,gr.tape,gr.output,gr.size,λb a7 _=>gr.block b a7 (λe=>by cases e),λ_ _ h=>h⟩ (λb a7 e=>ag.out b a7 e)
  | some k=>
   rw[M]at gr;exact bN.goes (aJ gr (.inr (aQ k M))) (λb a7 e=>ag.out b a7 e)
 have bQ:=bP.put (g:=q) (.inl (by omega)) (λe=>by have:=(bP.lt e).1;omega) 2 (Y A6 (n3+1) bX);go_wp2
 go_round
 case rel=>exact⟨n3+1,_,by go_num,by omega,C7,by simpa using bk,O7,bQ⟩
 case measure=>simp[intOf];omega
 ):P:=h
theorem Ad{P:Prop}(h:P:=by
 refine ad.out _ _ (dN aT) (λJ=>?_);clear ad K;refine aP 5 (λK ad=>?_);clear J;refine dW _ rfl (.tmp 22) (.tmp 25) 46 rfl aB (q+1) 132 i0 z0 96 Tryz.underlying46 bM bL bJ bR bB (by decide) (λb=>b<q+1) (Y A3 n3 c3) (l.take n3) (by rfl) (O1.below bC) (aj w2) 1 (a3 x A4 c4) x (by rfl) (Src.made w2 _ _) bI (by rw[aW];unfold maxLen;omega) (by rw[aW];omega) (by simp;have:=aK.size;omega) ?_;intro A6 bX w6 O6 cz gr aZ;have bZ:=aT.grown gr (λe=>by have:=(O.lt e.symm).2;have:=bj.out;omega);have C6:=((C1.below b2).below bC).grown gr (λk hk=>by have:=(O.lt hk).1;omega);have k6:=C6.bq.cell 1;have f6:=C6.bq.free 1;simp at k6;refine ad.out _ _ (dN bZ) (λJ=>?_);clear ad K;refine tk 6 J ?_;refine aP 7 (λK ad=>?_);clear J;go_simp;refine ad.out _ _ (dN (bZ.dA (by show xb≠q;omega) _)) (λJ=>?_);clear ad K;refine cB ?_ _;rw[aW,<-a4.out]at O6
 try rw[aW]
 have C7:=C6.Dm (Y A6 (n3+1) bX);have aQ:∀k,(Value.slice A3 n3 c3).ownBlock=some k->q+1<=k:=λk hk=>(O.lt hk).1;have O7:=O6.put (g:=q) (show q<q+1 by omega) (λe=>by have:=(O6.lt e).1;omega) 1 (Y A6 (n3+1) bX);have bk:q+1<=w6.heap.size:=Nat.le_trans (by simp;have:=aK.size;omega:q+1<=(w2.alloc (.cells (a3 x A4 c4) 132)).heap.size) gr.size;go_wp2
 go_round
 case rel=>exact⟨n3+1,_,by go_num,by omega,C7,by simpa using bk,O7⟩
 case measure=>simp[intOf];omega
 ):P:=h
theorem jX(S1 S2:Nat->Prop)(aq:Nat)(A A9:Option Addr)(n c m c9:Nat)(l p:List ae)(w:World)(aL:n=l.length)(hm:n<=1000)(h:SliceAt aB w S1 A l)(hg:∀x∈l,x.aH)(aO:m=p.length)(a9:m<=1000)(h2:SliceAt aB w S2 A9 p)(aF:∀x∈p,x.aH):
 Calls Tryz.prog 306 #[bT aq A n c A9 m c9] w λe w'=>∃vL vP,e=.returned (bp aq vL vP)/\cu w' w (λb=>b<w.heap.size) vL vP l p/\Below w w w':=by
 obtain⟨i0,z0,bM,bL,bB,bJ,bR⟩:=aS Tryz.dJ;have aw:=Lib.hid aL;have b0:=Lib.hid hg;have ao:=Lib.hid h;have bw:=Lib.hid aO;have bS:=Lib.hid aF;have bb:=Lib.hid h2;obtain⟨bi,aM⟩:=am (#[Value.int .u64 aq,Y A n c,Y A9 m c9,aa]);obtain⟨w0,ar⟩:=am ((w.alloc (.cells (bT aq A n c A9 m c9) 49)).alloc (.cells (bp 0 aa aa) 49));have aC:w0.heap.size=w.heap.size+2:=by rw[ar];simp
 have cg:ai w0 w 49 (bT aq A n c A9 m c9):=by rw[ar];exact(ai.made _ _ _).alloc _
 have ay:ai w0 (w.heap.size+1) 49 (bp 0 aa aa):=by
  rw[ar];have:=ai.made (w.alloc (.cells (bT aq A n c A9 m c9) 49)) 49 (bp 0 aa aa);simpa using this
 have aU:Below w w w0:=by rw[ar];exact((Below.refl _ _).alloc (Nat.le_refl _) _).alloc (by simp) _
 obtain⟨tb,bg⟩:=am w.heap.size;obtain⟨rb,bh⟩:=am (w.heap.size+1);rw[<-bg]at cg;rw[<-bh]at ay;have ch:=Lib.hid bg;have bn:=Lib.hid bh;have b7:=Lib.hid aC;obtain⟨t0,t1,t2,t3⟩:=cg.c4;simp at t0 t1 t2 t3;clear aL hg h aO aF h2 bg bh aC;go_enter Tryz.func306,Tryz.ntmps306;go_wp2_with fail;rw[<-ar,<-bn.out,<-ch.out];clear ar;refine wp_region_held_drew (S:=(λw'=>w'.cell? (aj tb)=some (I ak aq)/\w'.cell? ⟨tb,3,none⟩=some aa)) (by kernel_rfl) ⟨t0,t3⟩ (λJ=>?_);refine tk 0 J ?_;refine tk 1 J ?_;refine tk 2 J ?_;refine tk 3 J ?_;refine tk 4 J ?_;have bF:=λw=>zy aq w;refine tk 5 J ?_;have bc:tb<w0.heap.size:=cg.lt;refine aP 6 (λK ad=>?_);clear J;go_simp;refine ad.out _ _ (⟨by have:=cg.alloc (.cells (bp 0 aa aa) 49);simpa using this.cell 0,by have:=cg.alloc (.cells (bp 0 aa aa) 49);simpa using this.cell 3⟩) (λJ=>?_);clear ad K;refine aP 7 (λK ad=>?_);clear J;go_simp;refine ad.out _ _ (⟨by have:=cg.alloc (.cells (bp aq aa aa) 49);simpa using this.cell 0,by have:=cg.alloc (.cells (bp aq aa aa) 49);simpa using this.cell 3⟩) (λJ=>?_);clear ad K;refine cB ?_ _;obtain⟨w3,bd⟩:=am ((w0.alloc (.cells (bp aq aa aa) 49)).drew);obtain⟨q,hq⟩:=am w0.heap.size;have az:w3.heap.size=q+1:=by rw[bd,hq];simp
 have b5:=Lib.hid ch.out;have C0:er w w3 tb rb q bi aq aa aa:=by
  have e1:=ch.out;have a5:=bn.out;have e3:=b7.out;refine⟨?_,?_,?_,?_,by omega,by omega,by omega⟩
  ·rw[aM,bd];exact cg.alloc _
  ·rw[bd];exact ay.alloc _
  ·rw[bd,hq];exact ai.made _ _ _
  ·rw[bd];have aY:=(Below.refl w w0).alloc aU.size (.cells (bp aq aa aa) 49);exact aU.trans ⟨aY.os,aY.tape,aY.output,aY.size,aY.block⟩
 have HQ:=Lib.hid hq;have b4:=Lib.hid az;rw[<-hq];have bO:q+1<=w3.heap.size:=by omega
 rw[<-bd];clear bd hq az t0 t1 t2 t3 bc aU cg ay bF J;have A0:=C0.bt.cell 1;rw[aM]at A0;simp at A0;have bo:=Lib.hid aM;clear aM;go_wp2_with fail
 go_loopw [17] (λi_ wr=>∃ (i:Nat) (v:Value),i_=I af i/\i<=n/\er w wr tb rb q bi aq v aa/\q+1<=wr.heap.size/\aD aB 132 wr (q+1) (λb=>b<q+1) v (l.take i)) (λi _=>n- (intOf i).toNat)
 case atStart=>exact⟨0,aa,rfl,by omega,C0,bO,aD.nil _ _ _ _ _⟩
 case round=>
  obtain⟨i,v,rfl,hi,C,bz,O⟩:=hrel;have q0:=C.bq.cell 0;have q1:=C.bq.cell 1;have q2:=C.bq.cell 2;have q3:=C.bq.cell 3;simp at q0 q1 q2 q3;by_cases bA:i<n
  ·have bu:i<l.length:=(by have:=aw.out;omega);have bE:(i:Int)<(n:Int):=(by omega);have aX:=b0.out _ (List.getElem_mem bu);have a4:Hid (l.take (i+1)=l.take i++[l[i]]):=List.take_succ_eq_append_getElem bu;have aW:(l.take i).length=i:=(by rw[List.length_take];omega);obtain⟨b,off,u,rfl,bV,b8,bx,hcell,A2,c8,hu,h2⟩:=(ao.out.below C.b).at_ bu (by decide);rw[hu]at hcell;have d0:wr.cell? ⟨b,off+i*8,none⟩=some (I af l[i].kind):=hcell 0 _ rfl;have d1:wr.cell? ⟨b,off+i*8+1,none⟩=some (I af l[i].id.au):=hcell 1 _ rfl;have d2:wr.cell? ⟨b,off+i*8+2,none⟩=some (I ak l[i].id.aq):=hcell 2 _ rfl;have d3:wr.cell? ⟨b,off+i*8+3,none⟩=some (I ak l[i].id.ax):=hcell 3 _ rfl;have d4:wr.cell? ⟨b,off+i*8+4,none⟩=some (I af l[i].ah):=hcell 4 _ rfl;have d5:wr.cell? ⟨b,off+i*8+5,none⟩=some (I ak l[i].sub):=hcell 5 _ rfl;have d7:wr.cell? ⟨b,off+i*8+7,none⟩=some (Y A2 l[i].events.length c8):=hcell 7 _ rfl;have d6:wr.cell? ⟨b,off+i*8+6,none⟩=some aa:=hcell 6 _ rfl;obtain⟨x,hx⟩:=am (l[i]);rw[<-hx]at d0 d1 d2 d3 d4 d5 d7 h2 aX a4;obtain⟨A3,n3,c3,rfl,a2,bY⟩:=O.form;have e3:n3=i:=(by rw[a2.out,aW]);subst e3;obtain⟨w1,aN⟩:=am (wr.alloc (.cells (a3 x A2 c8) 132));have b1:=aV aN;have bD:ai w1 wr 132 (a3 x A2 c8):=(by rw[aN];exact ai.made _ _ _);obtain⟨xb,a0⟩:=am wr.heap.size;rw[<-a0]at bD;have aI:q<xb:=(by have:=C.bq.lt;omega);have bj:=Lib.hid a0;have wh:=hL S1 x A2 c8 w1.drew ((h2.below b1).fX) aX.lays.1 aX.lays.2;unfold ae.cellsOf at wh;have aR:=Lib.hid aX;have C1:=C.below b1;have p1:=C1.bq.cell 1;simp at p1;clear hcell bx hu hx h2 aX a0;go_wp2_with fail;rw[<-aN,<-bj.out];clear aN;refine wp_region_held_drew (S:=(λw'=>w'.cell? (aj xb)=some (I af x.kind)/\w'.cell? ⟨xb,1,none⟩=some (I af x.id.au)/\w'.cell? ⟨xb,2,none⟩=some (I ak x.id.aq)/\w'.cell? ⟨xb,3,none⟩=some (I ak x.id.ax)/\w'.cell? ⟨xb,4,none⟩=some (I af x.ah)/\w'.cell? ⟨xb,5,none⟩=some (I ak x.sub)/\w'.cell? ⟨xb,6,none⟩=some (aa)/\w'.cell? ⟨xb,7,none⟩=some (Y A2 x.events.length c8))) (by kernel_rfl) (dN bD) (λJ=>?_);refine tk 0 J ?_;refine tk 2 J ?_;refine wpAnyH_ready (rs:=[1,3]) (by kernel_rfl) (by simp) (AllReadyH.cons (by simp only[List.getElem?_toArray,List.getElem?_cons_succ,List.getElem?_cons_zero];rfl) (λK ad=>?_) (AllReadyH.cons (by simp only[List.getElem?_toArray,List.getElem?_cons_succ,List.getElem?_cons_zero];rfl) (λK ad=>?_) AllReadyH.nil))
   ·clear J;go_simp;refine ad.out _ _ (dN bD) (λJ=>?_);clear ad K;refine aP 3 (λK ad=>?_);clear J;go_simp;refine wh.mono ?_;clear wh;rintro e w2 ⟨A4,c4,rfl,h4,b2⟩;have b2:=a8 b2;have aA:=bD.below b2 bD.lt;have aK:=b1.trans (b2.mono b1.size);have O1:=O.below aK;have bC:=(Below.refl w2 w2).alloc (Nat.le_refl _) (.cells (a3 x A4 c4) 132);have aT:=aA.below bC aA.lt;have bI:aB.R (w2.alloc (.cells (a3 x A4 c4) 132)) (bm (λb=>b<q+1) (Y A3 n3 c3)) (a3 x A4 c4) x:=
     ⟨A4,c4,rfl,(h4.below bC).weak (λb aG=>by
      have e1:=b1.size;show b<w1.heap.size;rcases aG with aG | aG
      ·omega
      ·have:=(O.lt aG).2;omega)⟩
    have p2:=(C1.below b2).bq.cell 1;simp at p2
    try dsimp only
    refine ad.out _ _ (dN aA) (λJ=>?_);clear ad K;refine aP 4 (λK ad=>?_);clear J;go_simp;exact Ad
   ·clear J;go_simp;refine wh.mono ?_;clear wh;rintro e w2 ⟨A4,c4,rfl,h4,b2⟩;have b2:=a8 b2;have aA:=bD.below b2 bD.lt;have aK:=b1.trans (b2.mono b1.size);have O1:=O.below aK;have bC:=(Below.refl w2 w2).alloc (Nat.le_refl _) (.cells (a3 x A4 c4) 132);have aT:=aA.below bC aA.lt;have bI:aB.R (w2.alloc (.cells (a3 x A4 c4) 132)) (bm (λb=>b<q+1) (Y A3 n3 c3)) (a3 x A4 c4) x:=
     ⟨A4,c4,rfl,(h4.below bC).weak (λb aG=>by
      have e1:=b1.size;show b<w1.heap.size;rcases aG with aG | aG
      ·omega
      ·have:=(O.lt aG).2;omega)⟩
    have p2:=(C1.below b2).bq.cell 1;simp at p2
    try dsimp only
    refine ad.out _ _ (dN aA) (λJ=>?_);clear ad K;refine wpAnyH_ready (rs:=[1,4]) (by kernel_rfl) (by simp) (AllReadyH.cons (by simp only[List.getElem?_toArray,List.getElem?_cons_succ,List.getElem?_cons_zero];rfl) (λK ad=>?_) (AllReadyH.cons (by simp only[List.getElem?_toArray,List.getElem?_cons_succ,List.getElem?_cons_zero];rfl) (λK ad=>?_) AllReadyH.nil))
    focus
     clear J;go_simp;refine ad.out _ _ (dN aA) (λJ=>?_);clear ad K;refine aP 4 (λK ad=>?_);clear J
    rotate_left
    focus
     clear J;go_simp;refine ad.out _ _ (dN aT) (λJ=>?_);clear ad K;refine aP 1 (λK ad=>?_);clear J;have p3:=((C1.below b2).below bC).bq.cell 1;simp at p3
    all_goals
     go_simp;exact Ad
  ·obtain rfl:i=n:=(by omega);rw[aw.out,List.take_length]at O;obtain⟨B1,aE⟩:=am wr.heap.size;have a1:q+1<=B1:=(by omega);have ag:Hid (∀b,v.ownBlock=some b->¬ (b<q+1\/B1<=b)):=λb a7 e=>by
    have:=O.lt a7;omega
   have OL:aD aB 132 wr (q+1) (λb=>b<q+1\/B1<=b) v l:=O.wide (λb a7 e=>by
    have a5:b<q+1\/B1<=b:=e;show b<q+1;omega)
   have b3:B1<=wr.heap.size:=(by omega);have bH:=Lib.hid aE;have T2:=C.bt.cell 2;rw[bo.out]at T2;simp at T2;obtain⟨vL,bG⟩:=am v;rw[<-bG]at C OL ag q1;clear O bG aE bz;go_wp2_with fail
   go_loopw [32] (λi_ wr=>∃ (i:Nat) (v:Value),i_=I af i/\i<=m/\er w wr tb rb q bi aq vL v/\B1<=wr.heap.size/\aD aB 132 wr (B1) (λb=>b<B1) v (p.take i)/\aD aB 132 wr (q+1) (λb=>b<q+1\/B1<=b) vL l) (λi _=>m- (intOf i).toNat)
   case atStart=>exact⟨0,aa,rfl,by omega,C,b3,aD.nil _ _ _ _ _,OL⟩
   case round=>
    obtain⟨i,v,rfl,hi,C,bz,O,OL⟩:=hrel;have q0:=C.bq.cell 0;have q1:=C.bq.cell 1;have q2:=C.bq.cell 2;have q3:=C.bq.cell 3;simp at q0 q1 q2 q3;by_cases bA:i<m
    ·have bu:i<p.length:=(by have:=bw.out;omega);have bE:(i:Int)<(m:Int):=(by omega);have aX:=bS.out _ (List.getElem_mem bu);have a4:Hid (p.take (i+1)=p.take i++[p[i]]):=List.take_succ_eq_append_getElem bu;have aW:(p.take i).length=i:=(by rw[List.length_take];omega);obtain⟨b,off,u,rfl,bV,b8,bx,hcell,A2,c8,hu,h2⟩:=(bb.out.below C.b).at_ bu (by decide);rw[hu]at hcell;have d0:wr.cell? ⟨b,off+i*8,none⟩=some (I af p[i].kind):=hcell 0 _ rfl;have d1:wr.cell? ⟨b,off+i*8+1,none⟩=some (I af p[i].id.au):=hcell 1 _ rfl;have d2:wr.cell? ⟨b,off+i*8+2,none⟩=some (I ak p[i].id.aq):=hcell 2 _ rfl;have d3:wr.cell? ⟨b,off+i*8+3,none⟩=some (I ak p[i].id.ax):=hcell 3 _ rfl;have d4:wr.cell? ⟨b,off+i*8+4,none⟩=some (I af p[i].ah):=hcell 4 _ rfl;have d5:wr.cell? ⟨b,off+i*8+5,none⟩=some (I ak p[i].sub):=hcell 5 _ rfl;have d7:wr.cell? ⟨b,off+i*8+7,none⟩=some (Y A2 p[i].events.length c8):=hcell 7 _ rfl;have d6:wr.cell? ⟨b,off+i*8+6,none⟩=some aa:=hcell 6 _ rfl;obtain⟨x,hx⟩:=am (p[i]);rw[<-hx]at d0 d1 d2 d3 d4 d5 d7 h2 aX a4;obtain⟨A3,n3,c3,rfl,a2,bY⟩:=O.form;have e3:n3=i:=(by rw[a2.out,aW]);subst e3;obtain⟨w1,aN⟩:=am (wr.alloc (.cells (a3 x A2 c8) 132));have b1:=aV aN;have bD:ai w1 wr 132 (a3 x A2 c8):=(by rw[aN];exact ai.made _ _ _);obtain⟨xb,a0⟩:=am wr.heap.size;rw[<-a0]at bD;have aI:q<xb:=(by have:=C.bq.lt;omega);have bj:=Lib.hid a0;have wh:=hL S2 x A2 c8 w1.drew ((h2.below b1).fX) aX.lays.1 aX.lays.2;unfold ae.cellsOf at wh;have aR:=Lib.hid aX;have C1:=C.below b1;have p1:=C1.bq.cell 2;simp at p1;clear hcell bx hu hx h2 aX a0;go_wp2_with fail;rw[<-aN,<-bj.out];clear aN;refine wp_region_held_drew (S:=(λw'=>w'.cell? (aj xb)=some (I af x.kind)/\w'.cell? ⟨xb,1,none⟩=some (I af x.id.au)/\w'.cell? ⟨xb,2,none⟩=some (I ak x.id.aq)/\w'.cell? ⟨xb,3,none⟩=some (I ak x.id.ax)/\w'.cell? ⟨xb,4,none⟩=some (I af x.ah)/\w'.cell? ⟨xb,5,none⟩=some (I ak x.sub)/\w'.cell? ⟨xb,6,none⟩=some (aa)/\w'.cell? ⟨xb,7,none⟩=some (Y A2 x.events.length c8))) (by kernel_rfl) (dN bD) (λJ=>?_);refine tk 0 J ?_;refine tk 2 J ?_;refine wpAnyH_ready (rs:=[1,3]) (by kernel_rfl) (by simp) (AllReadyH.cons (by simp only[List.getElem?_toArray,List.getElem?_cons_succ,List.getElem?_cons_zero];rfl) (λK ad=>?_) (AllReadyH.cons (by simp only[List.getElem?_toArray,List.getElem?_cons_succ,List.getElem?_cons_zero];rfl) (λK ad=>?_) AllReadyH.nil))
     ·clear J;go_simp;refine ad.out _ _ (dN bD) (λJ=>?_);clear ad K;refine aP 3 (λK ad=>?_);clear J;go_simp;refine wh.mono ?_;clear wh;rintro e w2 ⟨A4,c4,rfl,h4,b2⟩;have b2:=a8 b2;have aA:=bD.below b2 bD.lt;have aK:=b1.trans (b2.mono b1.size);have O1:=O.below aK;have bC:=(Below.refl w2 w2).alloc (Nat.le_refl _) (.cells (a3 x A4 c4) 132);have aT:=aA.below bC aA.lt;have bI:aB.R (w2.alloc (.cells (a3 x A4 c4) 132)) (bm (λb=>b<B1) (Y A3 n3 c3)) (a3 x A4 c4) x:=
       ⟨A4,c4,rfl,(h4.below bC).weak (λb aG=>by
        have e1:=b1.size;show b<w1.heap.size;rcases aG with aG | aG
        ·omega
        ·have:=(O.lt aG).2;omega)⟩
      have p2:=(C1.below b2).bq.cell 2;simp at p2
      try dsimp only
      refine ad.out _ _ (dN aA) (λJ=>?_);clear ad K;refine aP 4 (λK ad=>?_);clear J;go_simp;exact Aj
     ·clear J;go_simp;refine wh.mono ?_;clear wh;rintro e w2 ⟨A4,c4,rfl,h4,b2⟩;have b2:=a8 b2;have aA:=bD.below b2 bD.lt;have aK:=b1.trans (b2.mono b1.size);have O1:=O.below aK;have bC:=(Below.refl w2 w2).alloc (Nat.le_refl _) (.cells (a3 x A4 c4) 132);have aT:=aA.below bC aA.lt;have bI:aB.R (w2.alloc (.cells (a3 x A4 c4) 132)) (bm (λb=>b<B1) (Y A3 n3 c3)) (a3 x A4 c4) x:=
       ⟨A4,c4,rfl,(h4.below bC).weak (λb aG=>by
        have e1:=b1.size;show b<w1.heap.size;rcases aG with aG | aG
        ·omega
        ·have:=(O.lt aG).2;omega)⟩
      have p2:=(C1.below b2).bq.cell 2;simp at p2
      try dsimp only
      refine ad.out _ _ (dN aA) (λJ=>?_);clear ad K;refine wpAnyH_ready (rs:=[1,4]) (by kernel_rfl) (by simp) (AllReadyH.cons (by simp only[List.getElem?_toArray,List.getElem?_cons_succ,List.getElem?_cons_zero];rfl) (λK ad=>?_) (AllReadyH.cons (by simp only[List.getElem?_toArray,List.getElem?_cons_succ,List.getElem?_cons_zero];rfl) (λK ad=>?_) AllReadyH.nil))
      focus
       clear J;go_simp;refine ad.out _ _ (dN aA) (λJ=>?_);clear ad K;refine aP 4 (λK ad=>?_);clear J
      rotate_left
      focus
       clear J;go_simp;refine ad.out _ _ (dN aT) (λJ=>?_);clear ad K;refine aP 1 (λK ad=>?_);clear J;have p3:=((C1.below b2).below bC).bq.cell 2;simp at p3
      all_goals
       go_simp;exact Aj
    ·obtain rfl:i=m:=(by omega);rw[bw.out,List.take_length]at O;have r0:=C.br.cell 0;have r1:=C.br.cell 1;have bf:=C.br.cell 2;have r3:=C.br.cell 3;have cj:=C.br.free 0;have cf:=C.br.free 1;have cd:=C.br.free 2;have bW:=C.br.free 3;simp at r0 r1 bf r3;have bv:q≠rb:=(by have:=C.h2;omega);obtain⟨AL,nL,cL,rfl,bs,ba⟩:=OL.form;obtain⟨AP,nP,cP,rfl,bU,b9⟩:=O.form;go_wp2_with fail;have RZ:=(((C.br.put 0 (av aq)).put 1 (Y AL nL cL)).put 2 (Y AP nP cP)).put 3 aa;simp only[List.setIfInBounds_toArray,List.set_cons_zero,List.set_cons_succ]at RZ;have gz:=bl rb (bT aq AL nL cL AP nP cP) wr 0;have bK:rb<q+1:=(by have:=C.h2;omega);have a6:w.heap.size<=rb:=(by have:=C.h0;have:=C.h1;omega);refine bodyPost_ret (results_cell_row rfl _ _ rb 49 _ (0,0) _ rfl RZ Tryz.underlying49 rfl (by kernel_rfl)) rfl ?_;refine⟨Y AL nL cL,Y AP nP cP,rfl,⟨?_,?_,λb h1 h2=>ag.out b h1 (.inr (O.lt h2).1),λb h1 h2=>ag.out b h1 (.inl (by have a5:b<w.heap.size:=h2;omega)),λb h1 h2=>by have:=(O.lt h1).1;have a5:b<w.heap.size:=h2;omega⟩,C.b.grown gz C.b.size (λk e=>by injection e with e;omega)⟩
     ·refine((OL.goes (aJ gz (show rb<q+1\/B1<=rb from .inl bK)) (λb a7 e=>ag.out b a7 e)).mono (by omega)).weak (λb a7=>?_);rcases a7 with a7 | a7
      ·exact .inl (by omega)
      ·exact .inr (O.lt a7).1
     ·refine((O.goes (aJ gz (show rb<B1 by omega)) (λb a7 e=>by have:=(O.lt a7).1;have a5:b<B1:=e;omega)).mono (by omega)).weak (λb a7=>?_);show b<B1;rcases a7 with a7 | a7
      ·omega
      ·have h1:=ag.out b a7;exact Nat.lt_of_not_le (λe=>h1 (.inr e))
end
section
def Out(F:Nat->Prop):Nat->Prop:=λb=>¬F b
structure aw (F:Nat->Prop) (w w':World):Prop where
 os:w'.os=w.os
 tape:w'.tape=w.tape
 output:w'.output=w.output
 size:w.heap.size<=w'.heap.size
 aI:∀b,b<w.heap.size->¬F b->w'.heap[b]? =w.heap[b]?
def New(F:Nat->Prop)(w w':World):Nat->Prop:=λb=>F b\/(w.heap.size<=b/\b<w'.heap.size)
section
variable {F G H:Nat->Prop}{w w' w'':World}
theorem aw.refl(F:Nat->Prop)(w:World):aw F w w:=⟨rfl,rfl,rfl,Nat.le_refl _,λ_ _ _=>rfl⟩
theorem aw.trans(h:aw F w w')(k:aw G w' w'')(hg:∀b,b<w.heap.size->G b->F b):aw F w w'':=
 ⟨k.os.trans h.os,k.tape.trans h.tape,k.output.trans h.output,Nat.le_trans h.size k.size,
  λb a7 aL=>(k.aI b (Nat.lt_of_lt_of_le a7 h.size) (λe=>aL (hg b a7 e))).trans (h.aI b a7 aL)⟩
theorem aw.wide(h:aw F w w')(hs:∀b,b<w.heap.size->F b->G b):aw G w w':=
 ⟨h.os,h.tape,h.output,h.size,λb a7 aL=>h.aI b a7 (λe=>aL (hs b a7 e))⟩
theorem aw.ao(h:Below w w w')(F:Nat->Prop):aw F w w':=⟨h.os,h.tape,h.output,h.size,λb a7 _=>h.block b a7⟩
theorem aw.below(h:aw F w w'){B:Nat}(hB:B<=w.heap.size)(hF:∀b,b<w.heap.size->F b->B<=b):Below B w w':=
 ⟨h.os,h.tape,h.output,h.size,λb a7=>h.aI b (by omega) (λe=>by have:=hF b (by omega) e;omega)⟩
theorem aw.g5{S S':Nat->Prop}(h:Goes S w S' w'):aw S w w':=⟨h.os,h.tape,h.output,h.size,h.aI⟩
theorem aw.bN{row:Option Nat}(h:w.grownBy w' row)(hF:∀b,row=some b->F b):aw F w w':=
 ⟨h.os,h.tape,h.output,h.size,λb a7 aL=>h.block b a7 (λe=>aL (hF b e.symm))⟩
theorem aw.out(h:aw F w w')(hd:∀b,b<w.heap.size->H b->¬F b):Goes (Out H) w (Out H) w':=
 ⟨h.os,h.tape,h.output,h.size,λb a7 aL=>h.aI b a7 (λe=>aL (λhH=>hd b a7 hH e)),λ_ _ hs=>hs⟩
theorem aw.block(h:aw F w w'){b:Nat}{o:Obj}(a7:w.heap[b]? =some o)(aL:¬F b):w'.heap[b]? =some o:=
 (h.aI b (Array.getElem?_eq_some_iff.1 a7).1 aL).trans a7
theorem aw.aW(h:aw F w w'){b:Nat}{t:TypeId}{cs:Array Value}(a7:ai w b t cs)(aL:¬F b):ai w' b t cs:=h.block a7 aL
theorem New.lt(hF:∀b,F b->b<w.heap.size)(hs:w.heap.size<=w'.heap.size):∀b,New F w w' b->b<w'.heap.size:=λb a7=>a7.elim (λh=>Nat.lt_of_lt_of_le (hF b h) hs) (λh=>h.2)
theorem New.old{b:Nat}(h:New F w w' b)(a7:b<w.heap.size):F b:=h.elim id (λh=>by omega)
end
section
variable {α:Type}{r:dD α}{w:World}{S S':Nat->Prop}{A:Option Addr}{l:List α}
theorem SliceAt.cJ(h:SliceAt r w S A l)(hs:∀b,b<w.heap.size->S' b->S b):SliceAt r w S' A l:=
 h.goes ⟨rfl,rfl,rfl,Nat.le_refl _,λ_ _ _=>rfl,hs⟩
theorem SliceAt.new{w':World}(h:SliceAt r w' (λb=>b<w.heap.size) A l)(F:Nat->Prop):SliceAt r w' (Out (New F w w')) A l:=
 h.cJ (λb h1 a7=>by
  apply Classical.byContradiction;intro h2;exact a7 (.inr ⟨by omega,h1⟩))
end
end
end Go.Proofs.YtgblliofomgggaaGreat
