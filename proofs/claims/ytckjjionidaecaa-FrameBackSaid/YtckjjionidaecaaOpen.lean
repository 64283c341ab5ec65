/- How arguments that came in are opened: bytes, and lists of texts, at any program. Plain lemmas. -/
import Derived.Test.YtckjjionidaecaaSame
import Derived.ProofKit
import Derived.OpenShut
import Derived.ShutString
import Derived.ChangeOld
import Derived.Deep.Matrix
namespace Go.Proofs.Ytckjjionidaecaa
open Go.RowKit Go.ChangeShapes Go.WideShapes

theorem bytes_of_ints (zs : List Int) (h : ∀ n ∈ zs, (Lit.int .u8 n).wf = true) : ∃ l : List UInt8, zs.map (Value.int .u8) = bytesV l ∧ zs.length = l.length := by
  refine ⟨zs.map fun n => UInt8.ofNat n.toNat, ?_, by simp⟩
  simp only [bytesV, List.map_map]
  refine List.map_congr_left fun n hn => ?_
  have hw := h n hn
  have hb := bounds_u8 hw
  simp only [Function.comp_apply, UInt8.toNat_ofNat']
  congr 1
  omega

section
variable {H : Type} {enc : TypeId × Value → H} {P : Program} {w : World} {base : Nat} {held : Bool}

theorem bytes_lie {k : Nat} {a : Addr} {zs : List Int} {len : Nat} (hk : k ≤ zs.length) (hcell : ∀ i, i < zs.length → w.cell? (a.add i) = some (.int .u8 (zs.getD i 0))) (hw : ∀ n ∈ zs, (Lit.int .u8 n).wf = true) (hl : k = len) :
    ∃ l : List UInt8, len = l.length ∧ Bytes w w.heap.size (some a) l := by
  subst hl
  obtain ⟨l, hl, hn⟩ := bytes_of_ints (zs.take k) (fun n hn => hw n (List.mem_of_mem_take hn))
  refine ⟨l, by rw [← hn, List.length_take]; omega, ?_⟩
  by_cases h0 : k = 0
  · left
    rw [← hl, h0]
    simp
  · right
    obtain ⟨b, off, spot⟩ := a
    have h1 := hcell 0 (by omega)
    have hs : spot = none := by simpa [Addr.add] using World.cell?_spot h1
    subst hs
    have hlt : b < w.heap.size := by
      have := World.block_lt_of_cell? w _ h1
      simpa [Addr.add] using this
    refine ⟨b, off, rfl, hlt, fun j u hu => ?_⟩
    rw [← hl] at hu
    rw [List.getElem?_map] at hu
    rcases hj : (zs.take k)[j]? with _ | n
    · rw [hj] at hu; simp at hu
    · rw [hj] at hu
      have hjk : j < k := by
        have := (List.getElem?_eq_some_iff.1 hj).1
        rw [List.length_take] at this
        omega
      rw [List.getElem?_take_of_lt hjk] at hj
      have := hcell j (by omega)
      rw [Addr.add_lit] at this
      rw [this]
      simp only [Option.map_some, Option.some.injEq] at hu
      rw [← hu, List.getD_eq_getElem?_getD, hj]
      rfl

/-- A []byte that came in. -/
theorem open_bytes {t e : TypeId} {a : Option Addr} {len cap : Nat} {d : DataW H} {p : List MemPlace} (ht : P.underlying t = some (.slice e)) (he : P.underlying e = some (.int .u8)) (hc : P.cellsOf e = 1)
    (h : DataW.Trod enc P w base (fun _ => true) held t (.slice a len cap) d p) : ∃ l : List UInt8, len = l.length ∧ l.length ≤ cap ∧ cap ≤ 9223372036854775807 ∧ Bytes w w.heap.size a l := by
  obtain ⟨fuel, hf⟩ := h
  rcases open_ints ht he hc hf with ⟨hcs, _⟩ | ⟨x, l, c, zs, hcs, _, hl, hm, hz, _, hcell, hwz⟩
  · simp [Value.cells] at hcs
    obtain ⟨rfl, rfl, rfl⟩ := hcs
    exact ⟨[], rfl, Nat.le_refl _, by omega, .inl rfl⟩
  · simp [Value.cells] at hcs
    obtain ⟨rfl, rfl, rfl⟩ := hcs
    simp only [if_true] at hz
    obtain ⟨bs, h1, h2⟩ := bytes_lie (k := len) (by omega) hcell hwz rfl
    exact ⟨bs, h1, by omega, by unfold maxLen at hm; omega, h2⟩

/-- A [][]byte that came in. -/
theorem open_texts {t e q : TypeId} {a : Option Addr} {len cap : Nat} {d : DataW H} {p : List MemPlace} (ht : P.underlying t = some (.slice e)) (he : P.underlying e = some (.slice q)) (hq : P.underlying q = some (.int .u8)) (ce : P.cellsOf e = 1) (cq : P.cellsOf q = 1)
    (h : DataW.Trod enc P w base (fun _ => true) held t (.slice a len cap) d p) : ∃ ls : List (List UInt8), len = ls.length ∧ ls.length ≤ cap ∧ cap ≤ 9223372036854775807 ∧ Texts w w.heap.size a ls ∧ ∀ x ∈ ls, x.length ≤ 9223372036854775807 := by
  obtain ⟨fuel, hf⟩ := h
  rcases Deep.open_int_rows ht he hq ce cq hf with ⟨hcs, _⟩ | ⟨x, l, c, A, L, C, Z, hcs, _, hl, hm, _, hrow⟩
  · simp [Value.cells] at hcs
    obtain ⟨rfl, rfl, rfl⟩ := hcs
    exact ⟨[], rfl, Nat.le_refl _, by omega, Texts.nil _ _ _, fun x hx => by simp at hx⟩
  · simp [Value.cells] at hcs
    obtain ⟨rfl, rfl, rfl⟩ := hcs
    have each : ∀ r, r < len → ∃ bs : List UInt8, L r = bs.length ∧ Bytes w w.heap.size (A r) bs ∧ bs.length ≤ 9223372036854775807 := by
      intro r hr
      obtain ⟨_, h2, h3, h4, h5, h6, h7⟩ := hrow r (by omega)
      cases hA : A r with
      | none =>
        have := h6 hA
        exact ⟨[], by simp; omega, .inl rfl, by simp⟩
      | some a' =>
        obtain ⟨bs, e1, e2⟩ := bytes_lie (k := L r) (by omega) (fun i hi => (h7 a' hA).2 i (by omega)) h5 rfl
        exact ⟨bs, e1, e2, by unfold maxLen at h3; omega⟩
    obtain ⟨F, hF⟩ := Deep.choose_lt each
    refine ⟨(List.range len).map F, by simp, by simpa using hl, by unfold maxLen at hm; omega, ⟨(List.range len).map fun r => .slice (A r) (L r) (C r), ?_, by simp, ?_⟩, ?_⟩
    · by_cases h0 : len = 0
      · left
        rw [h0]
        rfl
      · right
        obtain ⟨b, off, spot⟩ := x
        have h1 := (hrow 0 (by omega)).1
        have hs : spot = none := by simpa [Addr.add] using World.cell?_spot h1
        subst hs
        have hlt : b < w.heap.size := by
          have := World.block_lt_of_cell? w _ h1
          simpa [Addr.add] using this
        refine ⟨b, off, rfl, hlt, fun j u hu => ?_⟩
        have hj : j < len := by
          have := (List.getElem?_eq_some_iff.1 hu).1
          simpa using this
        simp [hj] at hu
        have := (hrow j (by omega)).1
        rw [Addr.add_lit] at this
        rw [this, hu]
    · intro i u p hu hp
      have hi : i < len := by
        have := (List.getElem?_eq_some_iff.1 hu).1
        simpa using this
      simp [hi] at hu hp
      subst hu hp
      obtain ⟨e1, e2, _⟩ := hF i hi
      exact ⟨A i, C i, by rw [e1], e2⟩
    · intro x hx
      simp at hx
      obtain ⟨r, hr, rfl⟩ := hx
      exact (hF r hr).2.2
end
end Go.Proofs.Ytckjjionidaecaa
