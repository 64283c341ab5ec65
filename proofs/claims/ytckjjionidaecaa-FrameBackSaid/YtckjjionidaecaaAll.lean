/- Both Wraps for any bytes: one contract each. -/
import Derived.Test.YtckjjionidaecaaOpen
namespace Go.Proofs.Ytckjjionidaecaa
open Go.RowKit

/-- May bytes be wrapped? -/
def okB (l : List UInt8) : Bool := decide (0 < l.length) && decide (l.length ≤ 4000)
/-- What a Wrap hands back, and its error. -/
def wrapped (l : List UInt8) : List UInt8 := if okB l then Fr.wrap l else []
def wrapErr (l : List UInt8) : Int := if okB l then 0 else 30

theorem wrapped_ok {l : List UInt8} (h0 : 0 < l.length) (h1 : l.length ≤ 4000) : wrapped l = Fr.wrap l ∧ wrapErr l = 0 := by
  have : okB l = true := by simp [okB, h0, h1]
  simp [wrapped, wrapErr, this]
theorem wrapped_no {l : List UInt8} (h : l.length = 0 ∨ 4000 < l.length) : wrapped l = [] ∧ wrapErr l = 30 := by
  have : okB l = false := by
    simp only [okB, Bool.and_eq_false_iff, decide_eq_false_iff_not]
    omega
  simp [wrapped, wrapErr, this]

theorem wrap_all (A : Option Addr) (c : Nat) (l : List UInt8) (w : World) (h : Bytes w w.heap.size A l) (hm : l.length ≤ 9223372036854775807) :
    Calls Try.prog 10 #[.slice A l.length c] w fun e w' => ∃ A' c', e = .returned (.tuple #[.slice A' (wrapped l).length c', .int .i64 (wrapErr l)]) ∧ Bytes w' w'.heap.size A' (wrapped l) ∧ (wrapped l).length ≤ c' ∧ Below w.heap.size w w' := by
  by_cases h0 : l.length = 0
  · obtain ⟨e1, e2⟩ := wrapped_no (.inl h0)
    rw [e1, e2]
    refine (wrap_none A c l.length w h0).mono ?_
    rintro e w' ⟨rfl, rfl⟩
    exact ⟨_, _, rfl, .inl rfl, Nat.le_refl _, Below.refl _ _⟩
  · by_cases h4 : 4000 < l.length
    · obtain ⟨e1, e2⟩ := wrapped_no (.inr h4)
      rw [e1, e2]
      refine (wrap_great A c l.length w h4 hm).mono ?_
      rintro e w' ⟨rfl, rfl⟩
      exact ⟨_, _, rfl, .inl rfl, Nat.le_refl _, Below.refl _ _⟩
    · obtain ⟨e1, e2⟩ := wrapped_ok (l := l) (by omega) (by omega)
      rw [e1, e2, Fr.wrap_length]
      refine (wrap_any A c l w h (by omega) (by omega)).mono ?_
      rintro e w' ⟨A', c', rfl, ho, hb⟩
      exact ⟨A', c', rfl, Lies.of_own ho, own_cap ho, hb⟩

theorem refwrap_all (A : Option Addr) (c : Nat) (l : List UInt8) (w : World) (h : Bytes w w.heap.size A l) (hm : l.length ≤ 9223372036854775807) :
    Calls Try.prog 11 #[.slice A l.length c] w fun e w' => ∃ A' c', e = .returned (.tuple #[.slice A' (wrapped l).length c', .int .i64 (wrapErr l)]) ∧ Bytes w' w'.heap.size A' (wrapped l) ∧ Below w.heap.size w w' := by
  by_cases h0 : l.length = 0
  · obtain ⟨e1, e2⟩ := wrapped_no (.inl h0)
    rw [e1, e2]
    refine (refwrap_none A c l.length w h0).mono ?_
    rintro e w' ⟨rfl, rfl⟩
    exact ⟨_, _, rfl, .inl rfl, Below.refl _ _⟩
  · by_cases h4 : 4000 < l.length
    · obtain ⟨e1, e2⟩ := wrapped_no (.inr h4)
      rw [e1, e2]
      refine (refwrap_great A c l.length w h4 hm).mono ?_
      rintro e w' ⟨rfl, rfl⟩
      exact ⟨_, _, rfl, .inl rfl, Below.refl _ _⟩
    · obtain ⟨e1, e2⟩ := wrapped_ok (l := l) (by omega) (by omega)
      rw [e1, e2, Fr.wrap_length]
      refine (refwrap_any A c l w h (by omega) (by omega)).mono ?_
      rintro e w' ⟨A', c', rfl, ho, hb⟩
      exact ⟨A', c', rfl, Lies.of_own ho, hb⟩

/-- frame.Scan, as a law takes it: a list of texts. -/
theorem scan_texts (A : Option Addr) (c : Nat) (l : List UInt8) (w : World) (h : Bytes w w.heap.size A l) (hc : l.length ≤ c) (hm : l.length ≤ 1048576) :
    Calls Try.prog 12 #[.slice A l.length c] w fun e w' => ∃ A' c', e = .returned (.tuple #[.slice A' (Fr.full l).length c', .int .i64 (Fr.used (Fr.full l))]) ∧ Texts w' w'.heap.size A' (Fr.full l) ∧ Below w.heap.size w w' := by
  refine (scan_any A c l w h hc hm).mono ?_
  rintro e w' ⟨v, rfl, hg, hb⟩
  obtain ⟨A', c', rfl, ht⟩ := hg.texts
  exact ⟨A', c', rfl, ht, hb⟩
theorem refscan_texts (A : Option Addr) (c : Nat) (l : List UInt8) (w : World) (h : Bytes w w.heap.size A l) (hc : l.length ≤ c) (hm : l.length ≤ 1048576) :
    Calls Try.prog 13 #[.slice A l.length c] w fun e w' => ∃ A' c', e = .returned (.tuple #[.slice A' (Fr.full l).length c', .int .i64 (Fr.used (Fr.full l))]) ∧ Texts w' w'.heap.size A' (Fr.full l) ∧ Below w.heap.size w w' := by
  refine (refscan_any A c l w h hc hm).mono ?_
  rintro e w' ⟨v, rfl, hg, hb⟩
  obtain ⟨A', c', rfl, ht⟩ := hg.texts
  exact ⟨A', c', rfl, ht, hb⟩
theorem full_length (l : List UInt8) : (Fr.full l).length ≤ l.length := Nat.le_trans (used_len _) (Fr.full_used l)
end Go.Proofs.Ytckjjionidaecaa
