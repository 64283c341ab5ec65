import Derived.WalkKit
import Derived.WalkLawsBesides
import Derived.WalkSpells
import Derived.Lib.Hide
import Derived.Maps.AppendAt
import Derived.Deep.Draws
import Derived.Laws.AppendOwnNone
import Derived.Deep.RegionHeld
namespace Go.Proofs.YtgblliofomgggaaGreat
set_option maxRecDepth 100000
open Go.RowKit
inductive a7 where|ag(x:Int)|av(x:Int)|aj(b:Nat)
open a7
instance (x:Int):CoeDep a7 (ag x) Value:=⟨.int .i64 x⟩
instance (x:Int):CoeDep a7 (av x) Value:=⟨.int .u64 x⟩
instance (b:Nat):CoeDep a7 (aj b) Value:=⟨.pointer (some ⟨b,0,none⟩)⟩
instance (b:Nat):CoeDep a7 (aj b) (Option Addr):=⟨some ⟨b,0,none⟩⟩
instance (b:Nat):CoeDep a7 (aj b) Addr:=⟨⟨b,0,none⟩⟩
instance :Coe World Nat:=⟨λw=>w.heap.size⟩
section
section
variable {P:Program}{ops:Array Oper}{Q:Exit->Act->World->Prop}{md:Region.Mode}{S:World->Prop}{fuel:Nat}{l l2:Array Bool}{a a2:Act}{w:World}
theorem tk(i:Nat){I:Oper}{v:Value}(hS:S w)(h:wpAnyH P md ops Q S fuel l2 a2 w)
 (hi:ops[i]? =some I:=by simp only[List.getElem?_toArray,List.getElem?_cons_succ,List.getElem?_cons_zero];rfl)
 (hs:Region.noSelect ops=true:=by kernel_rfl) (hf:Region.free md ops l i=true:=by kernel_rfl) (hr:(Region.ready md ops l).contains i=true:=by kernel_rfl)
 (hw:Region.wanted I (yielded ops a.tmps)=true:=by rfl)
 (hy:∀w,S w->(execOp a.eval I).run P w=.ok (.value v) w:=by intro w J;(try dsimp only at J);go_simp;try with_reducible rfl)
 (hQ:∀c a w,Q (.panic c) (a.put I.dst v) w->Q (.panic c) a w:=by intros;assumption)
 (hl:l.setIfInBounds i true=l2:=by(try simp only[List.setIfInBounds_toArray,List.set_cons_zero,List.set_cons_succ]);rfl)
 (ha:a.put I.dst v=a2:=by simp only[Act.put,List.setIfInBounds_toArray,List.set_cons_zero,List.set_cons_succ];rfl):wpAnyH P md ops Q S (fuel+1) l a w:=by
 subst hl ha;exact wpAnyH_take hi hs hf hr hQ (Or.inl ⟨hw,hy⟩) hS h
theorem fa(i:Nat){I:Oper}(hS:S w)(h:wpAnyH P md ops Q S fuel l2 a2 w)
 (hi:ops[i]? =some I:=by simp only[List.getElem?_toArray,List.getElem?_cons_succ,List.getElem?_cons_zero];rfl)
 (hs:Region.noSelect ops=true:=by kernel_rfl) (hf:Region.free md ops l i=true:=by kernel_rfl) (hr:(Region.ready md ops l).contains i=true:=by kernel_rfl)
 (hw:Region.wanted I (yielded ops a.tmps)=false:=by rfl)
 (hQ:∀c a w,Q (.panic c) (a.put I.dst undef) w->Q (.panic c) a w:=by intros;assumption)
 (hl:l.setIfInBounds i true=l2:=by(try simp only[List.setIfInBounds_toArray,List.set_cons_zero,List.set_cons_succ]);rfl)
 (ha:a.put I.dst undef=a2:=by simp only[Act.put,List.setIfInBounds_toArray,List.set_cons_zero,List.set_cons_succ];rfl):wpAnyH P md ops Q S (fuel+1) l a w:=by
 subst hl ha;exact wpAnyH_take hi hs hf hr hQ (Or.inr ⟨hw,rfl⟩) hS h
theorem aP(i:Nat){o:Oper}(h:∀K':Act->World->Prop,Shut (∀a w,S w->(S w->wpAnyH P md ops Q S fuel (l.setIfInBounds i true) a w)->K' a w)->if Region.wanted o (yielded ops a.tmps)=true then Oper.wp P o a w K' Q else K' (a.put o.dst undef) w)
 (hr:Region.ready md ops l=[i]:=by kernel_rfl) (hi:ops[i]? =some o:=by simp only[List.getElem?_toArray,List.getElem?_cons_succ,List.getElem?_cons_zero];rfl):wpAnyH P md ops Q S (fuel+1) l a w:=
 wpAnyH_ready hr (by simp) (AllReadyH.cons hi h AllReadyH.nil)
theorem cB(h:Q .normal a w)(fuel:Nat)(hr:Region.ready md ops l=[]:=by kernel_rfl):wpAnyH P md ops Q S fuel l a w:=wpAnyH_done hr h fuel
end
theorem am{α:Sort _}(a:α):∃x,x=a:=⟨a,rfl⟩
theorem aV{w w0:World}{b:Obj}(h:w0=w.alloc b):Below w.heap.size w w0:=by rw[h];exact(Below.refl _ _).alloc (Nat.le_refl _) _
theorem di{p0 p1:Prop}(h0:p0)(h1:p1):Hid (p0/\p1):=Lib.hid ⟨h0,h1⟩
theorem fm{p0 p1 p2:Prop}(h0:p0)(h1:p1)(h2:p2):Hid (p0/\p1/\p2):=Lib.hid ⟨h0,h1,h2⟩
theorem dx{p0 p1 p2 p3:Prop}(h0:p0)(h1:p1)(h2:p2)(a1:p3):Hid (p0/\p1/\p2/\p3):=Lib.hid ⟨h0,h1,h2,a1⟩
theorem ja{p0 p1 p2 p3 I:Prop}(h0:p0)(h1:p1)(h2:p2)(a1:p3)(h4:I):Hid (p0/\p1/\p2/\p3/\I):=Lib.hid ⟨h0,h1,h2,a1,h4⟩
theorem lv{p0 p1 p2 p3 I J:Prop}(h0:p0)(h1:p1)(h2:p2)(a1:p3)(h4:I)(bi:J):Hid (p0/\p1/\p2/\p3/\I/\J):=Lib.hid ⟨h0,h1,h2,a1,h4,bi⟩
theorem kz{p0 p1 p2 p3 I J M:Prop}(h0:p0)(h1:p1)(h2:p2)(a1:p3)(h4:I)(bi:J)(h6:M):Hid (p0/\p1/\p2/\p3/\I/\J/\M):=Lib.hid ⟨h0,h1,h2,a1,h4,bi,h6⟩
theorem Dx{p0 p1 p2 p3 I J M p7:Prop}(h0:p0)(h1:p1)(h2:p2)(a1:p3)(h4:I)(bi:J)(h6:M)(h7:p7):Hid (p0/\p1/\p2/\p3/\I/\J/\M/\p7):=Lib.hid ⟨h0,h1,h2,a1,h4,bi,h6,h7⟩
theorem Dc{p0 p1 p2 p3 I J M p7 p8:Prop}(h0:p0)(h1:p1)(h2:p2)(a1:p3)(h4:I)(bi:J)(h6:M)(h7:p7)(h8:p8):Hid (p0/\p1/\p2/\p3/\I/\J/\M/\p7/\p8):=Lib.hid ⟨h0,h1,h2,a1,h4,bi,h6,h7,h8⟩
theorem B1{p0 p1 p2 p3 I J M p7 p8 p9:Prop}(h0:p0)(h1:p1)(h2:p2)(a1:p3)(h4:I)(bi:J)(h6:M)(h7:p7)(h8:p8)(h9:p9):Hid (p0/\p1/\p2/\p3/\I/\J/\M/\p7/\p8/\p9):=Lib.hid ⟨h0,h1,h2,a1,h4,bi,h6,h7,h8,h9⟩
theorem DE{p0 p1 p2 p3 I J M p7 p8 p9 Y:Prop}(h0:p0)(h1:p1)(h2:p2)(a1:p3)(h4:I)(bi:J)(h6:M)(h7:p7)(h8:p8)(h9:p9)(ad:Y):Hid (p0/\p1/\p2/\p3/\I/\J/\M/\p7/\p8/\p9/\Y):=Lib.hid ⟨h0,h1,h2,a1,h4,bi,h6,h7,h8,h9,ad⟩
theorem CX{p0 p1 p2 p3 I J M p7 p8 p9 Y aa:Prop}(h0:p0)(h1:p1)(h2:p2)(a1:p3)(h4:I)(bi:J)(h6:M)(h7:p7)(h8:p8)(h9:p9)(ad:Y)(af:aa):Hid (p0/\p1/\p2/\p3/\I/\J/\M/\p7/\p8/\p9/\Y/\aa):=Lib.hid ⟨h0,h1,h2,a1,h4,bi,h6,h7,h8,h9,ad,af⟩
theorem DC{p0 p1 p2 p3 I J M p7 p8 p9 Y aa ae:Prop}(h0:p0)(h1:p1)(h2:p2)(a1:p3)(h4:I)(bi:J)(h6:M)(h7:p7)(h8:p8)(h9:p9)(ad:Y)(af:aa)(ag:ae):Hid (p0/\p1/\p2/\p3/\I/\J/\M/\p7/\p8/\p9/\Y/\aa/\ae):=Lib.hid ⟨h0,h1,h2,a1,h4,bi,h6,h7,h8,h9,ad,af,ag⟩
theorem y1{p0 p1 p2 p3 I J M p7 p8 p9 Y aa ae ah:Prop}(h0:p0)(h1:p1)(h2:p2)(a1:p3)(h4:I)(bi:J)(h6:M)(h7:p7)(h8:p8)(h9:p9)(ad:Y)(af:aa)(ag:ae)(bB:ah):Hid (p0/\p1/\p2/\p3/\I/\J/\M/\p7/\p8/\p9/\Y/\aa/\ae/\ah):=Lib.hid ⟨h0,h1,h2,a1,h4,bi,h6,h7,h8,h9,ad,af,ag,bB⟩
end
end Go.Proofs.YtgblliofomgggaaGreat
