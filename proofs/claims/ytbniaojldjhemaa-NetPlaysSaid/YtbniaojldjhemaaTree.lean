/- Parents that came in; the walk of tree.Check. -/
import Derived.Test.YtbniaojldjhemaaRows
import Derived.Test.YtbniaojldjhemaaRowsof
import Derived.Deep.QuietTactic
import Derived.BigQuiet
namespace Go.Proofs.Ytbniaojldjhemaa
open Go.RowKit Go.ChangeShapes Go.WideShapes
/-- Parents are parents. -/
def Good (p : Nat → Nat) (n : Nat) : Prop := ∀ k, 1 ≤ k → k < n → p k < k
theorem ret_val {v v' : Value} (h : v = v') : Ending.returned v = Ending.returned v' := by rw [h]
theorem quiet_left {P : Program} {f : FuncId} {args : Array Value} {w : World} {n : Nat} {v : Value}
    (h : Calls P f args (w.drewN n) fun e w' => e = .returned v ∧ w.drewN n = w') : Calls P f args (w.drewN n) fun e w'' => e = .returned v ∧ ∃ m, w'' = w.drewN m :=
  h.mono fun _ _ ⟨he, hm⟩ => ⟨he, n, hm.symm⟩

/-- The slice from A on, of length n, reads as the ints f 0, f 1, .. -/
def Arr (w : World) (B : Nat) (A : Option Addr) (n : Nat) (f : Nat → Int) : Prop :=
  n = 0 ∨ ∃ b off, A = some ⟨b, off, none⟩ ∧ b < B ∧ ∀ k, k < n → w.cell? ⟨b, off + k, none⟩ = some (.int .i64 (f k))
theorem Arr.below {w w' : World} {B : Nat} {A : Option Addr} {n : Nat} {f : Nat → Int} (h : Arr w B A n f) (hb : Below B w w') : Arr w' B A n f := by
  rcases h with h | ⟨b, off, hA, hB, hc⟩
  · exact .inl h
  · exact .inr ⟨b, off, hA, hB, fun k hk => (hb.cell (p := ⟨b, off + k, none⟩) hB).trans (hc k hk)⟩
theorem Arr.more {w : World} {B B' : Nat} {A : Option Addr} {n : Nat} {f : Nat → Int} (h : Arr w B A n f) (hb : B ≤ B') : Arr w B' A n f := by
  rcases h with h | ⟨b, off, hA, hB, hc⟩
  · exact .inl h
  · exact .inr ⟨b, off, hA, by omega, hc⟩
/-- Parents that make a tree. -/
structure IsTree (n : Nat) (f : Nat → Int) : Prop where
  lo : 1 ≤ n
  hi : n ≤ 16
  top : f 0 = -1
  par : ∀ k, 1 ≤ k → k < n → 0 ≤ f k ∧ f k < k
/-- A tree that lies below B: the parents p. -/
def TreeAt (w : World) (B : Nat) (A : Option Addr) (n : Nat) (p : Nat → Nat) : Prop :=
  1 ≤ n ∧ n ≤ 16 ∧ Good p n ∧ ∃ b off, A = some ⟨b, off, none⟩ ∧ b < B ∧ w.cell? ⟨b, off, none⟩ = some (.int .i64 (-1)) ∧ ∀ k, 1 ≤ k → k < n → w.cell? ⟨b, off + k, none⟩ = some (.int .i64 (p k))
theorem TreeAt.below {w w' : World} {B n : Nat} {A : Option Addr} {p : Nat → Nat} (h : TreeAt w B A n p) (hb : Below B w w') : TreeAt w' B A n p := by
  obtain ⟨h1, h2, hg, b, off, hA, hB, h0, hc⟩ := h
  exact ⟨h1, h2, hg, b, off, hA, hB, (hb.cell (p := ⟨b, off, none⟩) hB).trans h0, fun k k1 k2 => (hb.cell (p := ⟨b, off + k, none⟩) hB).trans (hc k k1 k2)⟩
theorem TreeAt.more {w : World} {B B' n : Nat} {A : Option Addr} {p : Nat → Nat} (h : TreeAt w B A n p) (hb : B ≤ B') : TreeAt w B' A n p := by
  obtain ⟨h1, h2, hg, b, off, hA, hB, hc⟩ := h
  exact ⟨h1, h2, hg, b, off, hA, by omega, hc⟩
theorem Arr.tree {w : World} {B n : Nat} {A : Option Addr} {f : Nat → Int} (h : Arr w B A n f) (ht : IsTree n f) : TreeAt w B A n (fun k => (f k).toNat) := by
  have hlo := ht.lo
  rcases h with h | ⟨b, off, hA, hB, hc⟩
  · omega
  · refine ⟨ht.lo, ht.hi, fun k k1 k2 => ?_, b, off, hA, hB, ?_, fun k k1 k2 => ?_⟩
    · have := ht.par k k1 k2
      show (f k).toNat < k
      omega
    · have := hc 0 (by omega)
      rw [ht.top] at this
      simpa using this
    · have h1 := ht.par k k1 k2
      rw [hc k k2]
      show some (Value.int .i64 (f k)) = some (.int .i64 ((f k).toNat : Int))
      rw [Int.toNat_of_nonneg h1.1]

theorem check_ok (A : Option Addr) (c n B : Nat) (p : Nat → Nat) (w : World) (h : TreeAt w B A n p) :
    Calls Try.prog 23 #[.slice A n c] w fun e w' => e = .returned (.int .i64 0) ∧ w = w' := by
  obtain ⟨h1, h2, hg, b, off, rfl, hB, h0, hc⟩ := h
  have e1 : (0 : Int) < (n : Int) := by omega
  have HC := Lib.hid hc
  clear hc
  go_enter Try.func23, Try.ntmps23
  go_wp2
  go_loop [3] (fun i => ∃ k : Nat, 1 ≤ k ∧ k ≤ n ∧ i = .int .i64 k) (fun i => n - (intOf i).toNat)
  case atStart => exact ⟨1, by omega, by omega, rfl⟩
  case round =>
    obtain ⟨k, k1, hk, rfl⟩ := hrel
    by_cases hlt : k < n
    · have ck := HC.out k k1 hlt
      have hp := hg k k1 hlt
      generalize p k = x at ck hp
      go_wp2
      go_round
      case rel => exact ⟨k + 1, by omega, by omega, by go_num⟩
      case measure => simp [intOf]; omega
    · go_wp2
      go_ret
      exact ⟨rfl, rfl⟩
theorem check_bad (A : Option Addr) (c n B : Nat) (f : Nat → Int) (w : World) (h : Arr w B A n f) (hm : n ≤ 9223372036854775807) (ht : ¬ IsTree n f) :
    Calls Try.prog 23 #[.slice A n c] w fun e w' => e = .returned (.int .i64 120) ∧ w = w' := by
  rcases (show n < 1 ∨ 16 < n ∨ (1 ≤ n ∧ n ≤ 16) by omega) with h1 | h1 | ⟨h1, h2⟩
  · clear h ht
    go_enter Try.func23, Try.ntmps23
    go_wp2
    go_ret
    exact ⟨rfl, rfl⟩
  · clear h ht
    go_enter Try.func23, Try.ntmps23
    go_wp2
    go_ret
    exact ⟨rfl, rfl⟩
  rcases h with h | ⟨b, off, rfl, hB, hc⟩
  · omega
  have e1 : (0 : Int) < (n : Int) := by omega
  have c0 := hc 0 (by omega)
  rw [Nat.add_zero] at c0
  have HC := Lib.hid hc
  clear hc
  by_cases ht0 : f 0 = -1
  · rw [ht0] at c0
    have HT : Hid (¬ ∀ k, 1 ≤ k → k < n → 0 ≤ f k ∧ f k < k) := fun hp => ht ⟨h1, h2, ht0, hp⟩
    clear ht ht0
    go_enter Try.func23, Try.ntmps23
    go_wp2
    go_loop [3] (fun i => ∃ k : Nat, 1 ≤ k ∧ k ≤ n ∧ i = .int .i64 k ∧ Hid (∀ j, 1 ≤ j → j < k → 0 ≤ f j ∧ f j < j)) (fun i => n - (intOf i).toNat)
    case atStart => exact ⟨1, by omega, by omega, rfl, fun j _ _ => by omega⟩
    case round =>
      obtain ⟨k, k1, hk, rfl, hall⟩ := hrel
      by_cases hlt : k < n
      · have ck := HC.out k hlt
        by_cases hgo : 0 ≤ f k ∧ f k < k
        · have hnext : Hid (∀ j, 1 ≤ j → j < k + 1 → 0 ≤ f j ∧ f j < j) := fun j j1 j2 => by
            by_cases e : j = k
            · rw [e]; exact hgo
            · exact hall.out j j1 (by omega)
          obtain ⟨g1, g2⟩ := hgo
          generalize f k = x at ck g1 g2
          go_wp2
          go_round
          case rel => exact ⟨k + 1, by omega, by omega, by go_num, hnext⟩
          case measure => simp [intOf]; omega
        · rcases (show f k < 0 ∨ (0 ≤ f k ∧ (k : Int) ≤ f k) by omega) with g1 | ⟨g1, g2⟩
          all_goals
            clear hgo
            generalize f k = x at *
            go_wp2
            go_ret
            exact ⟨rfl, rfl⟩
      · exfalso
        refine HT.out fun j j1 j2 => hall.out j j1 (by omega)
  · have hne : (f 0 == -1) = false := by simpa using ht0
    have hne' : (f 0 != -1) = true := by simpa using ht0
    clear ht ht0
    generalize f 0 = x at *
    go_enter Try.func23, Try.ntmps23
    go_wp2
    go_ret
    exact ⟨rfl, rfl⟩

section
variable {H : Type} {enc : TypeId × Value → H} {P : Program} {w : World} {base : Nat} {held : Bool}
theorem open_arr {t e : TypeId} {a : Option Addr} {len cap : Nat} {d : DataW H} {p : List MemPlace} (ht : P.underlying t = some (.slice e)) (he : P.underlying e = some (.int .i64)) (hc : P.cellsOf e = 1)
    (h : DataW.Trod enc P w base (fun _ => true) held t (.slice a len cap) d p) : ∃ f : Nat → Int, len ≤ cap ∧ cap ≤ 9223372036854775807 ∧ Arr w w.heap.size a len f := by
  obtain ⟨fuel, hf⟩ := h
  rcases open_ints ht he hc hf with ⟨hcs, _⟩ | ⟨x, l, c, zs, hcs, _, hl, hm, hz, _, hcell, hwz⟩
  · simp [Value.cells] at hcs
    obtain ⟨rfl, rfl, rfl⟩ := hcs
    exact ⟨fun _ => 0, Nat.le_refl _, by omega, .inl rfl⟩
  · simp [Value.cells] at hcs
    obtain ⟨rfl, rfl, rfl⟩ := hcs
    simp only [if_true] at hz
    refine ⟨fun k => zs.getD k 0, hl, by unfold maxLen at hm; omega, ?_⟩
    by_cases h0 : len = 0
    · exact .inl h0
    · obtain ⟨b, off, spot⟩ := x
      have h1 := hcell 0 (by omega)
      have hs : spot = none := by simpa [Addr.add] using World.cell?_spot h1
      subst hs
      have hlt : b < w.heap.size := by
        have := World.block_lt_of_cell? w _ h1
        simpa [Addr.add] using this
      refine .inr ⟨b, off, rfl, hlt, fun k hk => ?_⟩
      have := hcell k (by omega)
      rwa [Addr.add_lit] at this
end
end Go.Proofs.Ytbniaojldjhemaa
