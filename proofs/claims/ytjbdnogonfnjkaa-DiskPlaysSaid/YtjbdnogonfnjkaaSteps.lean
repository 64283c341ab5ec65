/- What each call of a script leaves of a disk, whatever is given. -/
import Derived.Test.YtjbdnogonfnjkaaScript
namespace Go.Proofs.Ytjbdnogonfnjkaa
open Go.RowKit

section
variable (w0 w : World) (q last room : Nat) (r : Option Nat) (l : List UInt8) (hd : Disk w q w0.heap.size r l last room) (hb0 : Below w0.heap.size w0 w)
include hd hb0
theorem append_step (A : Option Addr) (c B : Nat) (b : List UInt8) (hy : Bytes w B A b) (hm : b.length ≤ 9223372036854775807) :
    Calls Try.prog 12 #[.pointer (some ⟨q, 0, none⟩), .slice A b.length c] w fun e w' => ∃ f r' l', e = .returned (.int .i64 f) ∧ (f = 0 ∨ (f = 90 ∧ l' = l)) ∧ Disk w' q w0.heap.size r' l' last room ∧ Below w0.heap.size w0 w' := by
  by_cases h : l.length + b.length ≤ room
  · refine (append_ok A c _ _ _ _ _ l b w B hd hb0.size hy h).mono ?_
    rintro e w4 ⟨rfl, r4, hd4, hm4, hl4⟩
    exact ⟨0, r4, _, rfl, .inl rfl, hd4, hb0.trans (hd.far hm4 hb0.size)⟩
  · refine (append_full A c _ _ _ _ _ l b.length w hd hm (by omega)).mono ?_
    rintro e w4 ⟨rfl, k, rfl⟩
    exact ⟨90, r, l, rfl, .inr ⟨rfl, rfl⟩, hd, below_draws hb0⟩
theorem swap_step (A : Option Addr) (c B : Nat) (b : List UInt8) (hB : B ≤ w.heap.size) (hy : Bytes w B A b) :
    Calls Try.prog 19 #[.pointer (some ⟨q, 0, none⟩), .slice A b.length c] w fun e w' => ∃ f r' l' last', e = .returned (.int .i64 f) ∧ (f = 0 ∨ (f = 90 ∧ l' = l)) ∧ Disk w' q w0.heap.size r' l' last' room ∧ Below w0.heap.size w0 w' := by
  by_cases h : b.length ≤ room
  · refine (swap_ok A c _ _ _ _ _ l b w B hd hb0.size hB hy h).mono ?_
    rintro e w4 ⟨rfl, r4, hd4, hm4, hl4⟩
    exact ⟨0, r4, _, _, rfl, .inl rfl, hd4, hb0.trans (hd.far hm4 hb0.size)⟩
  · refine (swap_full A c _ _ _ _ _ l b.length w hd (by omega)).mono ?_
    rintro e w4 ⟨rfl, rfl⟩
    exact ⟨90, r, l, _, rfl, .inr ⟨rfl, rfl⟩, hd, hb0⟩
theorem cut_step (n : Int) :
    Calls Try.prog 18 #[.pointer (some ⟨q, 0, none⟩), .int .i64 n] w fun e w' => ∃ f l' last', e = .returned (.int .i64 f) ∧ (f = 0 ∨ (f = 1 ∧ l' = l)) ∧ Disk w' q w0.heap.size r l' last' room ∧ Below w0.heap.size w0 w' := by
  by_cases h : n < 0 ∨ (l.length : Int) < n
  · refine (cut_bad _ _ _ _ _ l n w hd h).mono ?_
    rintro e w4 ⟨rfl, rfl⟩
    exact ⟨1, l, _, rfl, .inr ⟨rfl, rfl⟩, hd, hb0⟩
  · obtain ⟨m, rfl⟩ : ∃ m : Nat, n = m := ⟨n.toNat, by omega⟩
    refine (cut_ok _ _ _ _ _ l m w hd (by omega)).mono ?_
    rintro e w4 ⟨rfl, hd4, hm4⟩
    exact ⟨0, _, _, rfl, .inl rfl, hd4, hb0.trans (hd.far hm4 hb0.size)⟩
end
end Go.Proofs.Ytjbdnogonfnjkaa
