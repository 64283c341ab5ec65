/- A script that came in ([]Call: structs of three ints and a []byte), opened. Plain lemmas, at any program. -/
import Derived.Test.YtbniaojldjhemaaDid
namespace Go.Proofs.Ytbniaojldjhemaa
open Go.RowKit Go.ChangeShapes Go.WideShapes

/-- One call of a script. -/
structure Elem where
  kd : Int
  f : Int
  t : Int
  A : Option Addr
  c : Nat
  b : List UInt8
instance : Inhabited Elem := ⟨⟨0, 0, 0, none, 0, []⟩⟩
def ElemAt (w : World) (B g o : Nat) (x : Elem) : Prop :=
  w.cell? ⟨g, o, none⟩ = some (.int .i64 x.kd) ∧ w.cell? ⟨g, o + 1, none⟩ = some (.int .i64 x.f) ∧ w.cell? ⟨g, o + 2, none⟩ = some (.int .i64 x.t) ∧ w.cell? ⟨g, o + 3, none⟩ = some (.slice x.A x.b.length x.c) ∧
    Bytes w B x.A x.b ∧ (Lit.int .i64 x.f).wf = true ∧ (Lit.int .i64 x.t).wf = true
/-- The script lies below B. -/
def ScriptAt (w : World) (B : Nat) (A : Option Addr) (len : Nat) (cs : Nat → Elem) : Prop :=
  len = 0 ∨ ∃ g off, A = some ⟨g, off, none⟩ ∧ g < B ∧ ∀ i, i < len → ElemAt w B g (off + i * 4) (cs i)

theorem ElemAt.below {w w' : World} {B g o : Nat} {x : Elem} (h : ElemAt w B g o x) (hg : g < B) (hb : Below B w w') : ElemAt w' B g o x :=
  ⟨(hb.cell (p := ⟨g, o, none⟩) hg).trans h.1, (hb.cell (p := ⟨g, o + 1, none⟩) hg).trans h.2.1, (hb.cell (p := ⟨g, o + 2, none⟩) hg).trans h.2.2.1, (hb.cell (p := ⟨g, o + 3, none⟩) hg).trans h.2.2.2.1, h.2.2.2.2.1.below hb, h.2.2.2.2.2⟩
theorem ScriptAt.below {w w' : World} {B : Nat} {A : Option Addr} {len : Nat} {cs : Nat → Elem} (h : ScriptAt w B A len cs) (hb : Below B w w') : ScriptAt w' B A len cs := by
  rcases h with h | ⟨g, off, hA, hg, hi⟩
  · exact .inl h
  · exact .inr ⟨g, off, hA, hg, fun i h => (hi i h).below hg hb⟩

section
variable {H : Type} {enc : TypeId × Value → H} {P : Program} {w : World} {base : Nat} {held : Bool}
theorem open_field {fs : Array Field} {e : TypeId} {n : Nat} {cs : List Value} {xs : List (DataW H × List MemPlace)} {f : Field} {j : Nat}
    (hf : ∀ (i : Nat) (f : Field), fs[i]? = some f → DataW.trod enc P w base (fun _ => true) held n f.type ((cs.drop f.offset).take (P.cellsOf f.type)) = xs[i]?) (hl : cs.length = P.cellsOf e) (hxl : xs.length = fs.size)
    (hj : fs[j]? = some f) (ho : f.offset = j) (hk : P.cellsOf f.type = 1) (hje : j < P.cellsOf e) : ∃ v y, cs[j]? = some v ∧ DataW.trod enc P w base (fun _ => true) held n f.type [v] = some y := by
  have h := hf j f hj
  have hjl : j < fs.size := (Array.getElem?_eq_some_iff.1 hj).1
  rw [ho, hk, List.drop_eq_getElem_cons (by omega), List.getElem?_eq_getElem (by omega)] at h
  exact ⟨_, _, List.getElem?_eq_getElem (by omega), h⟩
theorem open_one {e tb : TypeId} {f0 f1 f2 f3 : Field} {n o g : Nat} {cs : List Value} {x : DataW H × List MemPlace} (he : P.underlying e = some (.struct #[f0, f1, f2, f3])) (ce : P.cellsOf e = 4)
    (o0 : f0.offset = 0) (o1 : f1.offset = 1) (o2 : f2.offset = 2) (o3 : f3.offset = 3) (k0 : P.cellsOf f0.type = 1) (k1 : P.cellsOf f1.type = 1) (k2 : P.cellsOf f2.type = 1) (k3 : P.cellsOf f3.type = 1)
    (i0 : P.underlying f0.type = some (.int .i64)) (i1 : P.underlying f1.type = some (.int .i64)) (i2 : P.underlying f2.type = some (.int .i64)) (b3 : P.underlying f3.type = some (.slice tb)) (hb : P.underlying tb = some (.int .u8)) (cb : P.cellsOf tb = 1)
    (hcs : w.cells? base ⟨g, o, none⟩ 4 = some cs) (h : DataW.trod enc P w base (fun _ => true) held n e cs = some x) : ∃ y : Elem, ElemAt w w.heap.size g o y := by
  obtain ⟨xs, m, rfl, _, hl, hxl, hf⟩ := DataW.trod_struct he h
  obtain ⟨v0, y0, e0, t0⟩ := open_field hf hl hxl (j := 0) (f := f0) rfl o0 k0 (by omega)
  obtain ⟨v1, y1, e1, t1⟩ := open_field hf hl hxl (j := 1) (f := f1) rfl o1 k1 (by omega)
  obtain ⟨v2, y2, e2, t2⟩ := open_field hf hl hxl (j := 2) (f := f2) rfl o2 k2 (by omega)
  obtain ⟨v3, y3, e3, t3⟩ := open_field hf hl hxl (j := 3) (f := f3) rfl o3 k3 (by omega)
  obtain ⟨_, hcl, hat⟩ := World.cells?_some hcs
  obtain ⟨n0, h0, _, w0⟩ := DataW.trod_int i0 t0
  obtain ⟨n1, h1, _, w1⟩ := DataW.trod_int i1 t1
  obtain ⟨n2, h2, _, w2⟩ := DataW.trod_int i2 t2
  have c0 := hat 0 (by omega)
  have c1 := hat 1 (by omega)
  have c2 := hat 2 (by omega)
  have c3 := hat 3 (by omega)
  rw [e0] at c0
  rw [e1] at c1
  rw [e2] at c2
  rw [e3] at c3
  simp only [List.cons.injEq, and_true] at h0 h1 h2
  rw [h0] at c0
  rw [h1] at c1
  rw [h2] at c2
  rw [Addr.add_lit] at c0 c1 c2 c3
  have hs : ∃ A len c, v3 = .slice A len c := by
    rcases open_ints b3 hb cb t3 with ⟨hv, _⟩ | ⟨a, len, c, _, hv, _⟩
    · simp only [List.cons.injEq, and_true] at hv
      exact ⟨_, _, _, hv⟩
    · simp only [List.cons.injEq, and_true] at hv
      exact ⟨_, _, _, hv⟩
  obtain ⟨A, len, c, rfl⟩ := hs
  obtain ⟨b, rfl, _, _, hy⟩ := open_bytes (enc := enc) (held := held) (w := w) (base := base) (d := y3.1) (p := y3.2) b3 hb cb ⟨_, t3⟩
  exact ⟨⟨n0, n1, n2, A, c, b⟩, c0, c1, c2, c3, hy, w1, w2⟩
theorem open_script {t e tb : TypeId} {f0 f1 f2 f3 : Field} {a : Option Addr} {len cap : Nat} {d : DataW H} {p : List MemPlace} (ht : P.underlying t = some (.slice e)) (he : P.underlying e = some (.struct #[f0, f1, f2, f3])) (ce : P.cellsOf e = 4)
    (o0 : f0.offset = 0) (o1 : f1.offset = 1) (o2 : f2.offset = 2) (o3 : f3.offset = 3) (k0 : P.cellsOf f0.type = 1) (k1 : P.cellsOf f1.type = 1) (k2 : P.cellsOf f2.type = 1) (k3 : P.cellsOf f3.type = 1)
    (i0 : P.underlying f0.type = some (.int .i64)) (i1 : P.underlying f1.type = some (.int .i64)) (i2 : P.underlying f2.type = some (.int .i64)) (b3 : P.underlying f3.type = some (.slice tb)) (hb : P.underlying tb = some (.int .u8)) (cb : P.cellsOf tb = 1)
    (h : DataW.Trod enc P w base (fun _ => true) held t (.slice a len cap) d p) : ∃ cs : Nat → Elem, len ≤ cap ∧ cap ≤ 9223372036854775807 ∧ ScriptAt w w.heap.size a len cs := by
  obtain ⟨fuel, hf⟩ := h
  rcases Go.Deep.open_slice ht hf with ⟨hcs, _⟩ | ⟨x, l, c, m, n, D, Pl, hcs, _, hl, hm, hmm, _, hi⟩
  · simp [Value.cells] at hcs
    obtain ⟨rfl, rfl, rfl⟩ := hcs
    exact ⟨fun _ => default, Nat.le_refl _, by omega, .inl rfl⟩
  · simp [Value.cells] at hcs
    obtain ⟨rfl, rfl, rfl⟩ := hcs
    simp only [if_true] at hmm
    subst hmm
    rw [ce] at hi
    obtain ⟨g, off, spot⟩ := x
    by_cases h0 : len = 0
    · exact ⟨fun _ => default, hl, by unfold maxLen at hm; omega, .inl h0⟩
    obtain ⟨cs0, hc0, ht0⟩ := hi 0 (by omega)
    obtain ⟨_, hcl0, hat0⟩ := World.cells?_some hc0
    have hs : spot = none := by have h1 := (hat0 0 (by omega)).trans (List.getElem?_eq_getElem (by omega)); simpa [Addr.add] using World.cell?_spot h1
    subst hs
    have key : ∀ i, i < len → ∃ y : Elem, ElemAt w w.heap.size g (off + i * 4) y := fun i hil => by
      obtain ⟨cs, hc, htr⟩ := hi i (by omega)
      rw [Addr.add_lit] at hc
      exact open_one he ce o0 o1 o2 o3 k0 k1 k2 k3 i0 i1 i2 b3 hb cb hc htr
    obtain ⟨f, hf⟩ := Go.Deep.choose_lt key
    have hg : g < w.heap.size := by
      have := World.block_lt_of_cell? w _ (hf 0 (by omega)).1
      simpa using this
    exact ⟨f, hl, by unfold maxLen at hm; omega, .inr ⟨g, off, rfl, hg, hf⟩⟩
end
end Go.Proofs.Ytbniaojldjhemaa
