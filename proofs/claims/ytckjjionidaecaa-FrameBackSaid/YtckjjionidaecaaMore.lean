/- More words for rows of a call's own. Plain lemmas. -/
import Derived.Test.YtckjjionidaecaaAll
namespace Go.Proofs.Ytckjjionidaecaa
open Go.RowKit

/-- A row that is not empty, its address laid open. -/
theorem own_addr {w : World} {base e n c : Nat} {A : Option Addr} {xs : List Value} (h : w.ownsRow base e 1 (.slice A n c) n xs) (hn : 0 < n) :
    ∃ g, A = some ⟨g, 0, none⟩ ∧ base ≤ g ∧ g < w.heap.size ∧ n ≤ c ∧ (∀ (j : Nat) (u : Value), xs[j]? = some u → w.cell? ⟨g, j, none⟩ = some u) ∧ ∀ j, w.frozen? ⟨g, j, none⟩ = false := by
  rcases h.2 with ⟨_, h0⟩ | ⟨g, cap, cur, hv, hb, hh, hnc, hcm, hcs, htake⟩
  · omega
  · injection hv with hA _ hc
    subst hA hc
    refine ⟨g, rfl, hb, (Array.getElem?_eq_some_iff.1 hh).1, hnc, fun j u hu => ?_, fun j => Blk.free (cs := cur) hh j⟩
    have := h.cells (g := g) rfl j u hu
    rwa [Addr.add_lit, Nat.zero_add] at this
theorem bytesV_set (l : List UInt8) (i : Nat) (x : UInt8) : (bytesV l).set i (.int .u8 (x.toNat : Int)) = bytesV (l.set i x) := by simp [bytesV, List.map_set]
/-- A byte of a row is written. -/
theorem own_put {w : World} {base n c g i : Nat} {l : List UInt8} (h : w.ownsRow base 5 1 (.slice (some ⟨g, 0, none⟩) n c) n (bytesV l)) (x : UInt8) :
    (w.setCell ⟨g, i, none⟩ (.int .u8 (x.toNat : Int))).ownsRow base 5 1 (.slice (some ⟨g, 0, none⟩) n c) n (bytesV (l.set i x)) := by
  have := (h.stored i (.int .u8 (x.toNat : Int))).1
  rwa [bytesV_set] at this
theorem get_wrap (b : List UInt8) (i : Nat) (hi : i < b.length) : (bytesV (Fr.wrap b))[6 + i]? = some (.int .u8 (b[i].toNat : Int)) := by
  have e : (Fr.wrap b)[6 + i]? = b[i]? := by
    unfold Fr.wrap
    rw [List.getElem?_append_right (by simp [Fr.be2, Fr.be4])]
    simp [Fr.be2, Fr.be4]
  rw [bytesV, List.getElem?_map, e, List.getElem?_eq_getElem hi]
  rfl
theorem scan_len (A : Option Addr) (c n : Nat) (l : List UInt8) (w : World) (ls : List (List UInt8)) (hn : l.length = n) (hl : Fr.full l = ls) (h : Bytes w w.heap.size A l) (hc : n ≤ c) (hm : n ≤ 1048576) :
    Calls Try.prog 12 #[.slice A n c] w fun e w' => ∃ A' c', e = .returned (.tuple #[.slice A' ls.length c', .int .i64 (Fr.used ls)]) ∧ Texts w' w'.heap.size A' ls ∧ Below w.heap.size w w' := by
  subst hn hl
  exact scan_texts A c l w h hc hm
end Go.Proofs.Ytckjjionidaecaa
