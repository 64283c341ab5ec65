/- Lists of texts in memory, and how one that came in is opened. -/
import Derived.Test.YtbniaojldjhemaaAwake
import Derived.Deep.Matrix
namespace Go.Proofs.Ytbniaojldjhemaa
open Go.RowKit Go.ChangeShapes Go.WideShapes

/-- The slice from A on reads as a list of texts. -/
def Texts (w : World) (B : Nat) (A : Option Addr) (ls : List (List UInt8)) : Prop :=
  ∃ xs, Lies w B A xs ∧ xs.length = ls.length ∧ ∀ (i : Nat) (u : Value) (p : List UInt8), xs[i]? = some u → ls[i]? = some p → ∃ A' c', u = .slice A' p.length c' ∧ Bytes w B A' p

section
variable {w w' : World} {B B' : Nat} {A : Option Addr} {ls : List (List UInt8)}
theorem Texts.below (h : Texts w B A ls) (hb : Below B w w') : Texts w' B A ls := by
  obtain ⟨xs, h1, h2, h3⟩ := h
  exact ⟨xs, h1.below hb, h2, fun i u p hu hp => by
    obtain ⟨A', c', e, hy⟩ := h3 i u p hu hp
    exact ⟨A', c', e, hy.below hb⟩⟩
theorem Texts.more (h : Texts w B A ls) (hB : B ≤ B') : Texts w B' A ls := by
  obtain ⟨xs, h1, h2, h3⟩ := h
  exact ⟨xs, h1.more hB, h2, fun i u p hu hp => by
    obtain ⟨A', c', e, hy⟩ := h3 i u p hu hp
    exact ⟨A', c', e, hy.more hB⟩⟩
theorem Texts.drewN (h : Texts w B A ls) (n : Nat) : Texts (w.drewN n) B A ls := h
theorem Texts.drew (h : Texts w B A ls) : Texts w.drew B A ls := h
theorem Texts.nil (w : World) (B : Nat) (A : Option Addr) : Texts w B A [] := ⟨[], .inl rfl, rfl, fun i u p h => by simp at h⟩
theorem Texts.take (h : Texts w B A ls) (k : Nat) : Texts w B A (ls.take k) := by
  obtain ⟨xs, h1, h2, h3⟩ := h
  refine ⟨xs.take k, ?_, by simp [h2], fun i u p hu hp => ?_⟩
  · rcases h1 with rfl | ⟨b, off, hA, hb, hc⟩
    · left; simp
    · exact .inr ⟨b, off, hA, hb, fun j u hu => by
        rw [List.getElem?_take] at hu
        split at hu
        · exact hc j u hu
        · cases hu⟩
  · rw [List.getElem?_take] at hu hp
    split at hu
    · rename_i hi
      rw [if_pos hi] at hp
      exact h3 i u p hu hp
    · cases hu
theorem Texts.at_ (h : Texts w B A ls) {k : Nat} (hk : k < ls.length) :
    ∃ b off A' c', A = some ⟨b, off, none⟩ ∧ b < B ∧ w.cell? ⟨b, off + k, none⟩ = some (.slice A' ls[k].length c') ∧ Bytes w B A' ls[k] := by
  obtain ⟨xs, h1, h2, h3⟩ := h
  obtain ⟨b, off, hA, hb, hc⟩ := h1.open_ (by omega)
  obtain ⟨A', c', e, hy⟩ := h3 k xs[k] ls[k] (List.getElem?_eq_getElem (by omega)) (List.getElem?_eq_getElem hk)
  exact ⟨b, off, A', c', hA, hb, (hc k _ (List.getElem?_eq_getElem (by omega))).trans (by rw [e]), hy⟩
end

section
variable {H : Type} {enc : TypeId × Value → H} {P : Program} {w : World} {base : Nat} {held : Bool}
/-- A [][]byte that came in. -/
theorem open_texts {t e q : TypeId} {a : Option Addr} {len cap : Nat} {d : DataW H} {p : List MemPlace} (ht : P.underlying t = some (.slice e)) (he : P.underlying e = some (.slice q)) (hq : P.underlying q = some (.int .u8)) (ce : P.cellsOf e = 1) (cq : P.cellsOf q = 1)
    (h : DataW.Trod enc P w base (fun _ => true) held t (.slice a len cap) d p) : ∃ ls : List (List UInt8), len = ls.length ∧ ls.length ≤ cap ∧ cap ≤ 9223372036854775807 ∧ Texts w w.heap.size a ls ∧ ∀ x ∈ ls, x.length ≤ 9223372036854775807 := by
  obtain ⟨fuel, hf⟩ := h
  rcases Deep.open_int_rows ht he hq ce cq hf with ⟨hcs, _⟩ | ⟨x, l, c, A, L, C, Z, hcs, _, hl, hm, _, hrow⟩
  · simp [Value.cells] at hcs
    obtain ⟨rfl, rfl, rfl⟩ := hcs
    exact ⟨[], rfl, Nat.le_refl _, by omega, Texts.nil _ _ _, fun x hx => by simp at hx⟩
  · simp [Value.cells] at hcs
    obtain ⟨rfl, rfl, rfl⟩ := hcs
    have each : ∀ r, r < len → ∃ bs : List UInt8, L r = bs.length ∧ Bytes w w.heap.size (A r) bs ∧ bs.length ≤ 9223372036854775807 := by
      intro r hr
      obtain ⟨_, h2, h3, h4, h5, h6, h7⟩ := hrow r (by omega)
      cases hA : A r with
      | none =>
        have := h6 hA
        exact ⟨[], by simp; omega, .inl rfl, by simp⟩
      | some a' =>
        obtain ⟨bs, e1, e2⟩ := bytes_lie (k := L r) (by omega) (fun i hi => (h7 a' hA).2 i (by omega)) h5 rfl
        exact ⟨bs, e1, e2, by unfold maxLen at h3; omega⟩
    obtain ⟨F, hF⟩ := Deep.choose_lt each
    refine ⟨(List.range len).map F, by simp, by simpa using hl, by unfold maxLen at hm; omega, ⟨(List.range len).map fun r => .slice (A r) (L r) (C r), ?_, by simp, ?_⟩, ?_⟩
    · by_cases h0 : len = 0
      · left
        rw [h0]
        rfl
      · right
        obtain ⟨b, off, spot⟩ := x
        have h1 := (hrow 0 (by omega)).1
        have hs : spot = none := by simpa [Addr.add] using World.cell?_spot h1
        subst hs
        have hlt : b < w.heap.size := by
          have := World.block_lt_of_cell? w _ h1
          simpa [Addr.add] using this
        refine ⟨b, off, rfl, hlt, fun j u hu => ?_⟩
        have hj : j < len := by
          have := (List.getElem?_eq_some_iff.1 hu).1
          simpa using this
        simp [hj] at hu
        have := (hrow j (by omega)).1
        rw [Addr.add_lit] at this
        rw [this, hu]
    · intro i u p hu hp
      have hi : i < len := by
        have := (List.getElem?_eq_some_iff.1 hu).1
        simpa using this
      simp [hi] at hu hp
      subst hu hp
      obtain ⟨e1, e2, _⟩ := hF i hi
      exact ⟨A i, C i, by rw [e1], e2⟩
    · intro x hx
      simp at hx
      obtain ⟨r, hr, rfl⟩ := hx
      exact (hF r hr).2.2
end
theorem const_two (w : World) (m : Nat × Nat) : TreeAt (w.alloc (.cells #[.int .i64 (-1), .int .i64 0] 3 m)) (w.heap.size + 1) (some ⟨w.heap.size, 0, none⟩) 2 p0 := by
  refine ⟨by omega, by omega, fun k h1 h2 => by unfold p0; omega, _, _, rfl, by omega, ?_, fun k h1 h2 => ?_⟩
  · rw [World.cell?_alloc_mark]
    rfl
  · rw [World.cell?_alloc_mark]
    match k, h1, h2 with
    | 1, _, _ => rfl
end Go.Proofs.Ytbniaojldjhemaa
