/- More words: rows of a call's own; bytes that came in, opened. Plain lemmas, at any program. -/
import Derived.Test.YtbniaojldjhemaaWords
import Derived.ProofKit
import Derived.OpenShut
import Derived.ShutString
import Derived.ChangeOld
import Derived.Deep.Slices
namespace Go.Proofs.Ytbniaojldjhemaa
open Go.RowKit Go.ChangeShapes Go.WideShapes

section
variable {w w' : World} {base base' e e' n m : Nat} {v u : Value} {xs ys : List Value}
theorem own_below (h : w.ownsRow base e 1 v n xs) (hb : Below w.heap.size w w') : w'.ownsRow base e 1 v n xs := by
  refine ⟨h.1, ?_⟩
  rcases h.2 with hn | ⟨g, cap, cur, hv, hg, hh, rest⟩
  · exact .inl hn
  · exact .inr ⟨g, cap, cur, hv, hg, (hb.block g (Array.getElem?_eq_some_iff.1 hh).1).trans hh, rest⟩
theorem own_mono (h : w.ownsRow base e 1 v n xs) (hb : base' ≤ base) : w.ownsRow base' e 1 v n xs := by
  refine ⟨h.1, ?_⟩
  rcases h.2 with hn | ⟨g, cap, cur, hv, hg, rest⟩
  · exact .inl hn
  · exact .inr ⟨g, cap, cur, hv, by omega, rest⟩
theorem own_ne (h : w.ownsRow base e 1 v n xs) (k : w.ownsRow base' e' 1 u m ys) (hne : e ≠ e') : v.ownBlock = none ∨ v.ownBlock ≠ u.ownBlock := by
  rcases h.2 with ⟨rfl, _⟩ | ⟨g, cap, cur, rfl, hg, hh, _⟩
  · exact .inl rfl
  · right
    exact (Blk.ne_own (cs := cur) hh k (Ne.symm hne))
end
theorem below_draws {B n : Nat} {a w : World} (h : Below B a w) : Below B a (w.drewN n) := ⟨h.os, h.tape, h.output, h.size, h.block⟩
theorem own_cap {w : World} {base e n c : Nat} {A : Option Addr} {xs : List Value} (h : w.ownsRow base e 1 (.slice A n c) n xs) : n ≤ c := by
  rcases h.2 with ⟨hv, rfl⟩ | ⟨g, cap, cur, hv, _, _, hnc, _⟩
  · exact Nat.zero_le _
  · injection hv with _ _ hc
    omega
/-- A row that is not empty, its address laid open. -/
theorem own_addr {w : World} {base e n c : Nat} {A : Option Addr} {xs : List Value} (h : w.ownsRow base e 1 (.slice A n c) n xs) (hn : 0 < n) :
    ∃ g, A = some ⟨g, 0, none⟩ ∧ base ≤ g ∧ g < w.heap.size ∧ n ≤ c ∧ (∀ (j : Nat) (u : Value), xs[j]? = some u → w.cell? ⟨g, j, none⟩ = some u) ∧ ∀ j, w.frozen? ⟨g, j, none⟩ = false := by
  rcases h.2 with ⟨_, h0⟩ | ⟨g, cap, cur, hv, hb, hh, hnc, hcm, hcs, htake⟩
  · omega
  · injection hv with hA _ hc
    subst hA hc
    refine ⟨g, rfl, hb, (Array.getElem?_eq_some_iff.1 hh).1, hnc, fun j u hu => ?_, fun j => Blk.free (cs := cur) hh j⟩
    have := h.cells (g := g) rfl j u hu
    rwa [Addr.add_lit, Nat.zero_add] at this
theorem bytesV_set (l : List UInt8) (i : Nat) (x : UInt8) : (bytesV l).set i (.int .u8 (x.toNat : Int)) = bytesV (l.set i x) := by simp [bytesV, List.map_set]
/-- A byte of a row is written. -/
theorem own_put {w : World} {base n c g i : Nat} {l : List UInt8} (h : w.ownsRow base 5 1 (.slice (some ⟨g, 0, none⟩) n c) n (bytesV l)) (x : UInt8) :
    (w.setCell ⟨g, i, none⟩ (.int .u8 (x.toNat : Int))).ownsRow base 5 1 (.slice (some ⟨g, 0, none⟩) n c) n (bytesV (l.set i x)) := by
  have := (h.stored i (.int .u8 (x.toNat : Int))).1
  rwa [bytesV_set] at this
/-- What has grown out of a draw has grown out of what stood ahead of it. -/
theorem grown_undrew {w w' : World} {row : Option Nat} (h : w.drew.grownBy w' row) : w.grownBy w' row := ⟨h.os, h.tape, h.output, h.size, h.block⟩
theorem bytes_of_ints (zs : List Int) (h : ∀ n ∈ zs, (Lit.int .u8 n).wf = true) : ∃ l : List UInt8, zs.map (Value.int .u8) = bytesV l ∧ zs.length = l.length := by
  refine ⟨zs.map fun n => UInt8.ofNat n.toNat, ?_, by simp⟩
  simp only [bytesV, List.map_map]
  refine List.map_congr_left fun n hn => ?_
  have hw := h n hn
  have hb := bounds_u8 hw
  simp only [Function.comp_apply, UInt8.toNat_ofNat']
  congr 1
  omega
section
variable {H : Type} {enc : TypeId × Value → H} {P : Program} {w : World} {base : Nat} {held : Bool}
theorem bytes_lie {k : Nat} {a : Addr} {zs : List Int} {len : Nat} (hk : k ≤ zs.length) (hcell : ∀ i, i < zs.length → w.cell? (a.add i) = some (.int .u8 (zs.getD i 0))) (hw : ∀ n ∈ zs, (Lit.int .u8 n).wf = true) (hl : k = len) :
    ∃ l : List UInt8, len = l.length ∧ Bytes w w.heap.size (some a) l := by
  subst hl
  obtain ⟨l, hl, hn⟩ := bytes_of_ints (zs.take k) (fun n hn => hw n (List.mem_of_mem_take hn))
  refine ⟨l, by rw [← hn, List.length_take]; omega, ?_⟩
  by_cases h0 : k = 0
  · left
    rw [← hl, h0]
    simp
  · right
    obtain ⟨b, off, spot⟩ := a
    have h1 := hcell 0 (by omega)
    have hs : spot = none := by simpa [Addr.add] using World.cell?_spot h1
    subst hs
    have hlt : b < w.heap.size := by
      have := World.block_lt_of_cell? w _ h1
      simpa [Addr.add] using this
    refine ⟨b, off, rfl, hlt, fun j u hu => ?_⟩
    rw [← hl] at hu
    rw [List.getElem?_map] at hu
    rcases hj : (zs.take k)[j]? with _ | n
    · rw [hj] at hu; simp at hu
    · rw [hj] at hu
      have hjk : j < k := by
        have := (List.getElem?_eq_some_iff.1 hj).1
        rw [List.length_take] at this
        omega
      rw [List.getElem?_take_of_lt hjk] at hj
      have := hcell j (by omega)
      rw [Addr.add_lit] at this
      rw [this]
      simp only [Option.map_some, Option.some.injEq] at hu
      rw [← hu, List.getD_eq_getElem?_getD, hj]
      rfl
/-- A []byte that came in. -/
theorem open_bytes {t e : TypeId} {a : Option Addr} {len cap : Nat} {d : DataW H} {p : List MemPlace} (ht : P.underlying t = some (.slice e)) (he : P.underlying e = some (.int .u8)) (hc : P.cellsOf e = 1)
    (h : DataW.Trod enc P w base (fun _ => true) held t (.slice a len cap) d p) : ∃ l : List UInt8, len = l.length ∧ l.length ≤ cap ∧ cap ≤ 9223372036854775807 ∧ Bytes w w.heap.size a l := by
  obtain ⟨fuel, hf⟩ := h
  rcases open_ints ht he hc hf with ⟨hcs, _⟩ | ⟨x, l, c, zs, hcs, _, hl, hm, hz, _, hcell, hwz⟩
  · simp [Value.cells] at hcs
    obtain ⟨rfl, rfl, rfl⟩ := hcs
    exact ⟨[], rfl, Nat.le_refl _, by omega, .inl rfl⟩
  · simp [Value.cells] at hcs
    obtain ⟨rfl, rfl, rfl⟩ := hcs
    simp only [if_true] at hz
    obtain ⟨bs, h1, h2⟩ := bytes_lie (k := len) (by omega) hcell hwz rfl
    exact ⟨bs, h1, by omega, by unfold maxLen at hm; omega, h2⟩
end
end Go.Proofs.Ytbniaojldjhemaa
