/- The walks of package tree, but Kids: Check, broker, Up, Depth, and Same of the document's. -/
import Derived.Test.YtofgclmibemniaaRows
import Derived.Test.YtofgclmibemniaaRowsof
import Derived.Test.YtofgclmibemniaaPlain
import Derived.Deep.QuietTactic
import Derived.BigQuiet
namespace Go.Proofs.Ytofgclmibemniaa
open Go.RowKit

theorem ret_val {v v' : Value} (h : v = v') : Ending.returned v = Ending.returned v' := by rw [h]
theorem quiet_left {P : Program} {f : FuncId} {args : Array Value} {w : World} {n : Nat} {v : Value}
    (h : Calls P f args (w.drewN n) fun e w' => e = .returned v ∧ w.drewN n = w') : Calls P f args (w.drewN n) fun e w'' => e = .returned v ∧ ∃ m, w'' = w.drewN m :=
  h.mono fun _ _ ⟨he, hm⟩ => ⟨he, n, hm.symm⟩

/-- The slice from A on, of length n, reads as the ints f 0, f 1, .. -/
def Arr (w : World) (B : Nat) (A : Option Addr) (n : Nat) (f : Nat → Int) : Prop :=
  n = 0 ∨ ∃ b off, A = some ⟨b, off, none⟩ ∧ b < B ∧ ∀ k, k < n → w.cell? ⟨b, off + k, none⟩ = some (.int .i64 (f k))
theorem Arr.below {w w' : World} {B : Nat} {A : Option Addr} {n : Nat} {f : Nat → Int} (h : Arr w B A n f) (hb : Below B w w') : Arr w' B A n f := by
  rcases h with h | ⟨b, off, hA, hB, hc⟩
  · exact .inl h
  · exact .inr ⟨b, off, hA, hB, fun k hk => (hb.cell (p := ⟨b, off + k, none⟩) hB).trans (hc k hk)⟩
theorem Arr.more {w : World} {B B' : Nat} {A : Option Addr} {n : Nat} {f : Nat → Int} (h : Arr w B A n f) (hb : B ≤ B') : Arr w B' A n f := by
  rcases h with h | ⟨b, off, hA, hB, hc⟩
  · exact .inl h
  · exact .inr ⟨b, off, hA, by omega, hc⟩
/-- Parents that make a tree. -/
structure IsTree (n : Nat) (f : Nat → Int) : Prop where
  lo : 1 ≤ n
  hi : n ≤ 16
  top : f 0 = -1
  par : ∀ k, 1 ≤ k → k < n → 0 ≤ f k ∧ f k < k
/-- A tree that lies below B: the parents p. -/
def TreeAt (w : World) (B : Nat) (A : Option Addr) (n : Nat) (p : Nat → Nat) : Prop :=
  1 ≤ n ∧ n ≤ 16 ∧ Good p n ∧ ∃ b off, A = some ⟨b, off, none⟩ ∧ b < B ∧ w.cell? ⟨b, off, none⟩ = some (.int .i64 (-1)) ∧ ∀ k, 1 ≤ k → k < n → w.cell? ⟨b, off + k, none⟩ = some (.int .i64 (p k))
theorem TreeAt.below {w w' : World} {B n : Nat} {A : Option Addr} {p : Nat → Nat} (h : TreeAt w B A n p) (hb : Below B w w') : TreeAt w' B A n p := by
  obtain ⟨h1, h2, hg, b, off, hA, hB, h0, hc⟩ := h
  exact ⟨h1, h2, hg, b, off, hA, hB, (hb.cell (p := ⟨b, off, none⟩) hB).trans h0, fun k k1 k2 => (hb.cell (p := ⟨b, off + k, none⟩) hB).trans (hc k k1 k2)⟩
theorem TreeAt.more {w : World} {B B' n : Nat} {A : Option Addr} {p : Nat → Nat} (h : TreeAt w B A n p) (hb : B ≤ B') : TreeAt w B' A n p := by
  obtain ⟨h1, h2, hg, b, off, hA, hB, hc⟩ := h
  exact ⟨h1, h2, hg, b, off, hA, by omega, hc⟩
theorem Arr.tree {w : World} {B n : Nat} {A : Option Addr} {f : Nat → Int} (h : Arr w B A n f) (ht : IsTree n f) : TreeAt w B A n (fun k => (f k).toNat) := by
  have hlo := ht.lo
  rcases h with h | ⟨b, off, hA, hB, hc⟩
  · omega
  · refine ⟨ht.lo, ht.hi, fun k k1 k2 => ?_, b, off, hA, hB, ?_, fun k k1 k2 => ?_⟩
    · have := ht.par k k1 k2
      show (f k).toNat < k
      omega
    · have := hc 0 (by omega)
      rw [ht.top] at this
      simpa using this
    · have h1 := ht.par k k1 k2
      rw [hc k k2]
      show some (Value.int .i64 (f k)) = some (.int .i64 ((f k).toNat : Int))
      rw [Int.toNat_of_nonneg h1.1]

theorem check_ok (A : Option Addr) (c n B : Nat) (p : Nat → Nat) (w : World) (h : TreeAt w B A n p) :
    Calls Try.prog 10 #[.slice A n c] w fun e w' => e = .returned (.int .i64 0) ∧ w = w' := by
  obtain ⟨h1, h2, hg, b, off, rfl, hB, h0, hc⟩ := h
  have e1 : (0 : Int) < (n : Int) := by omega
  have HC := Lib.hid hc
  clear hc
  go_enter Try.func10, Try.ntmps10
  go_wp2
  go_loop [3] (fun i => ∃ k : Nat, 1 ≤ k ∧ k ≤ n ∧ i = .int .i64 k) (fun i => n - (intOf i).toNat)
  case atStart => exact ⟨1, by omega, by omega, rfl⟩
  case round =>
    obtain ⟨k, k1, hk, rfl⟩ := hrel
    by_cases hlt : k < n
    · have ck := HC.out k k1 hlt
      have hp := hg k k1 hlt
      generalize p k = x at ck hp
      go_wp2
      go_round
      case rel => exact ⟨k + 1, by omega, by omega, by go_num⟩
      case measure => simp [intOf]; omega
    · go_wp2
      go_ret
      exact ⟨rfl, rfl⟩
theorem check_bad (A : Option Addr) (c n B : Nat) (f : Nat → Int) (w : World) (h : Arr w B A n f) (hm : n ≤ 9223372036854775807) (ht : ¬ IsTree n f) :
    Calls Try.prog 10 #[.slice A n c] w fun e w' => e = .returned (.int .i64 120) ∧ w = w' := by
  rcases (show n < 1 ∨ 16 < n ∨ (1 ≤ n ∧ n ≤ 16) by omega) with h1 | h1 | ⟨h1, h2⟩
  · clear h ht
    go_enter Try.func10, Try.ntmps10
    go_wp2
    go_ret
    exact ⟨rfl, rfl⟩
  · clear h ht
    go_enter Try.func10, Try.ntmps10
    go_wp2
    go_ret
    exact ⟨rfl, rfl⟩
  rcases h with h | ⟨b, off, rfl, hB, hc⟩
  · omega
  have e1 : (0 : Int) < (n : Int) := by omega
  have c0 := hc 0 (by omega)
  rw [Nat.add_zero] at c0
  have HC := Lib.hid hc
  clear hc
  by_cases ht0 : f 0 = -1
  · rw [ht0] at c0
    have HT : Hid (¬ ∀ k, 1 ≤ k → k < n → 0 ≤ f k ∧ f k < k) := fun hp => ht ⟨h1, h2, ht0, hp⟩
    clear ht ht0
    go_enter Try.func10, Try.ntmps10
    go_wp2
    go_loop [3] (fun i => ∃ k : Nat, 1 ≤ k ∧ k ≤ n ∧ i = .int .i64 k ∧ Hid (∀ j, 1 ≤ j → j < k → 0 ≤ f j ∧ f j < j)) (fun i => n - (intOf i).toNat)
    case atStart => exact ⟨1, by omega, by omega, rfl, fun j _ _ => by omega⟩
    case round =>
      obtain ⟨k, k1, hk, rfl, hall⟩ := hrel
      by_cases hlt : k < n
      · have ck := HC.out k hlt
        by_cases hgo : 0 ≤ f k ∧ f k < k
        · have hnext : Hid (∀ j, 1 ≤ j → j < k + 1 → 0 ≤ f j ∧ f j < j) := fun j j1 j2 => by
            by_cases e : j = k
            · rw [e]; exact hgo
            · exact hall.out j j1 (by omega)
          obtain ⟨g1, g2⟩ := hgo
          generalize f k = x at ck g1 g2
          go_wp2
          go_round
          case rel => exact ⟨k + 1, by omega, by omega, by go_num, hnext⟩
          case measure => simp [intOf]; omega
        · rcases (show f k < 0 ∨ (0 ≤ f k ∧ (k : Int) ≤ f k) by omega) with g1 | ⟨g1, g2⟩
          all_goals
            clear hgo
            generalize f k = x at *
            go_wp2
            go_ret
            exact ⟨rfl, rfl⟩
      · exfalso
        refine HT.out fun j j1 j2 => hall.out j j1 (by omega)
  · have hne : (f 0 == -1) = false := by simpa using ht0
    have hne' : (f 0 != -1) = true := by simpa using ht0
    clear ht ht0
    generalize f 0 = x at *
    go_enter Try.func10, Try.ntmps10
    go_wp2
    go_ret
    exact ⟨rfl, rfl⟩

theorem broker_yes (A : Option Addr) (c n B : Nat) (p : Nat → Nat) (w : World) (h : TreeAt w B A n p) (k : Nat) (hk : k < n) :
    Calls Try.prog 17 #[.slice A n c, .int .i64 k] w fun e w' => e = .returned (.bool true) ∧ w = w' := by
  have e1 : (k : Int) < (n : Int) := by omega
  go_enter Try.func17, Try.ntmps17
  go_wp2_with fail
  refine (check_ok A c n B p w h).mono ?_
  rintro e w1 ⟨rfl, rfl⟩
  go_wp2
  go_ret
  exact ⟨rfl, rfl⟩
theorem broker_no (A : Option Addr) (c n : Nat) (w : World) (a : Int) (h : a < 0 ∨ (n : Int) ≤ a) :
    Calls Try.prog 17 #[.slice A n c, .int .i64 a] w fun e w' => e = .returned (.bool false) ∧ w = w' := by
  rcases (show a < 0 ∨ (0 ≤ a ∧ (n : Int) ≤ a) by omega) with h | ⟨h, h'⟩
  · go_enter Try.func17, Try.ntmps17
    go_wp2
    go_ret
    exact ⟨rfl, rfl⟩
  · go_enter Try.func17, Try.ntmps17
    go_wp2
    go_ret
    exact ⟨rfl, rfl⟩

/-- Depth. -/
theorem depth_any (A : Option Addr) (c n B : Nat) (p : Nat → Nat) (w : World) (h : TreeAt w B A n p) (k : Nat) (hk : k < n) :
    Calls Try.prog 14 #[.slice A n c, .int .i64 k] w fun e w' => e = .returned (.int .i64 (dep p k)) ∧ w = w' := by
  have h' := h
  obtain ⟨h1, h2, hg, b, off, rfl, hB, h0, hc⟩ := h
  have HC := Lib.hid hc
  have HT := Lib.hid h'
  have hd := dep_le p k
  clear hc h'
  go_enter Try.func14, Try.ntmps14
  go_wp2_with fail
  refine (broker_yes _ c n B p w HT.out k hk).mono ?_
  rintro e w1 ⟨rfl, rfl⟩
  go_wp2
  go_loop [1, 5] (fun b d => ∃ j m : Nat, j < n ∧ m + dep p j = dep p k ∧ b = .int .i64 j ∧ d = .int .i64 m) (fun b _ => (intOf b).toNat)
  case atStart => exact ⟨k, 0, hk, by omega, rfl, rfl⟩
  case round =>
    obtain ⟨j, m, hj, hm, rfl, rfl⟩ := hrel
    by_cases hlt : 0 < j
    · have cj := HC.out j hlt hj
      have hp := hg j hlt hj
      have hs := Lib.hid (dep_step p hlt hp)
      have hm' : m + 1 + dep p (p j) = dep p k := by have := hs.out; omega
      have hmk : m ≤ dep p k := by omega
      have HM := Lib.hid hm'
      clear hm hm'
      generalize p j = x at *
      go_wp2
      go_round
      case rel => exact ⟨x, m + 1, by omega, HM.out, by go_num, by go_num⟩
      case measure => simp [intOf]; omega
    · have e := dep_zero p
      have hmk : m = dep p k := by rw [show j = 0 by omega] at hm; omega
      have HM := Lib.hid hmk
      have hle : (j : Int) ≤ 0 := by omega
      clear hm hmk e
      go_wp2
      go_ret
      exact ⟨ret_val (by show Value.int .i64 (m : Int) = _; rw [HM.out]), rfl⟩
theorem depth_out (A : Option Addr) (c n : Nat) (w : World) (a : Int) (h : a < 0 ∨ (n : Int) ≤ a) :
    Calls Try.prog 14 #[.slice A n c, .int .i64 a] w fun e w' => e = .returned (.int .i64 (-1)) ∧ w = w' := by
  go_enter Try.func14, Try.ntmps14
  go_wp2_with fail
  refine (broker_no A c n w a h).mono ?_
  rintro e w1 ⟨rfl, rfl⟩
  go_wp2
  go_ret
  exact ⟨rfl, rfl⟩

/-- Up. -/
theorem up_any (A : Option Addr) (c n B : Nat) (p : Nat → Nat) (w : World) (h : TreeAt w B A n p) (a b : Nat) (ha : a < n) (hb : b < n) :
    Calls Try.prog 15 #[.slice A n c, .int .i64 a, .int .i64 b] w fun e w' => e = .returned (.bool (upB p a b)) ∧ w = w' := by
  have h' := h
  obtain ⟨h1, h2, hg, bk, off, rfl, hB, h0, hc⟩ := h
  have HC := Lib.hid hc
  have HT := Lib.hid h'
  clear hc h'
  go_enter Try.func15, Try.ntmps15
  go_wp2_with fail
  go_step3
  go_wp2_with fail
  refine (broker_yes _ c n B p w HT.out a ha).mono ?_
  rintro e w1 ⟨rfl, rfl⟩
  go_wp2_with fail
  refine (broker_yes _ c n B p w HT.out b hb).mono ?_
  rintro e w1 ⟨rfl, rfl⟩
  go_wp2
  go_step3
  go_wp2
  go_loop [2, 7] (fun b' m' => m' = .bool false ∧ ∃ i : Int, b' = .int .i64 i ∧ -1 ≤ i ∧ i < n ∧ Hid ((0 ≤ i → upB p a i.toNat = upB p a b) ∧ (i = -1 → upB p a b = false))) (fun b' _ => (intOf b' + 1).toNat)
  case atStart => exact ⟨rfl, b, rfl, by omega, by omega, ⟨fun _ => by simp, fun h => by omega⟩⟩
  case round =>
    obtain ⟨rfl, i, rfl, hi1, hi2, H⟩ := hrel
    by_cases hlt : 0 ≤ i
    · obtain ⟨j, rfl⟩ : ∃ j : Nat, i = j := ⟨i.toNat, by omega⟩
      have hj : j < n := by omega
      have hu := H.out.1 hlt
      rw [Int.toNat_natCast] at hu
      by_cases hab : a = j
      · have hy : upB p a b = true := by rw [← hu, upB_iff, hab]; exact anc_self p j
        have HY := Lib.hid hy
        have e1 : ((a : Int) == (j : Int)) = true := by simp [hab]
        clear hu hy hab H
        go_wp2
        try rw [Exit.noGoto_ret]
        go_ret
        exact ⟨ret_val (by show Value.bool _ = _; rw [HY.out]), rfl⟩
      · have e1 : ((a : Int) == (j : Int)) = false := by simp; omega
        by_cases hj0 : 0 < j
        · have cj := HC.out j hj0 hj
          have hp := hg j hj0 hj
          have hn : upB p a (p j) = upB p a b := by
            rw [← hu]
            unfold upB
            rw [anc_step p hj0 hp]
            simp [hab]
          generalize p j = x at *
          have H2 : Hid ((0 ≤ (x : Int) → upB p a (x : Int).toNat = upB p a b) ∧ ((x : Int) = -1 → upB p a b = false)) := ⟨fun _ => by simpa using hn, fun h => by omega⟩
          clear H hu hn hab
          go_wp2
          go_round
          case rel => exact ⟨rfl, x, rfl, by omega, by omega, H2⟩
          case measure => simp [intOf]; omega
        · have hn : upB p a b = false := by
            rw [← hu, show j = 0 by omega, upB_not, anc_zero]
            simp
            omega
          have H2 : Hid ((0 ≤ (-1 : Int) → upB p a (-1 : Int).toNat = upB p a b) ∧ ((-1 : Int) = -1 → upB p a b = false)) := ⟨fun h => by omega, fun _ => hn⟩
          have cj : w.cell? ⟨bk, off + j, none⟩ = some (.int .i64 (-1)) := by rw [show j = 0 by omega, Nat.add_zero]; exact h0
          clear H hu hn hab h0
          go_wp2
          go_round
          case rel => exact ⟨rfl, -1, rfl, by omega, by omega, H2⟩
          case measure => simp [intOf]
    · have hy := H.out.2 (by omega)
      have HY := Lib.hid hy
      clear hy H
      go_wp2
      try rw [Exit.noGoto_ret]
      go_ret
      exact ⟨ret_val (by show Value.bool _ = _; rw [HY.out]), rfl⟩
theorem up_out (A : Option Addr) (c n B : Nat) (p : Nat → Nat) (w : World) (ht : TreeAt w B A n p) (a b : Int) (h : (a < 0 ∨ (n : Int) ≤ a) ∨ (b < 0 ∨ (n : Int) ≤ b)) :
    Calls Try.prog 15 #[.slice A n c, .int .i64 a, .int .i64 b] w fun e w' => e = .returned (.bool false) ∧ w = w' := by
  by_cases ha : a < 0 ∨ (n : Int) ≤ a
  · clear h
    go_enter Try.func15, Try.ntmps15
    go_wp2_with fail
    go_step3
    go_wp2_with fail
    refine (broker_no A c n w a ha).mono ?_
    rintro e w1 ⟨rfl, rfl⟩
    go_wp2
    try rw [Exit.noGoto_ret]
    go_ret
    exact ⟨rfl, rfl⟩
  · have hb : b < 0 ∨ (n : Int) ≤ b := by omega
    obtain ⟨k, rfl⟩ : ∃ k : Nat, a = k := ⟨a.toNat, by omega⟩
    have hk : k < n := by omega
    clear ha h
    go_enter Try.func15, Try.ntmps15
    go_wp2_with fail
    go_step3
    go_wp2_with fail
    refine (broker_yes _ c n B p w ht k hk).mono ?_
    rintro e w1 ⟨rfl, rfl⟩
    go_wp2_with fail
    refine (broker_no A c n w b hb).mono ?_
    rintro e w1 ⟨rfl, rfl⟩
    go_wp2
    try rw [Exit.noGoto_ret]
    go_ret
    exact ⟨rfl, rfl⟩

/-- Whatever the numbers are. -/
def upI (p : Nat → Nat) (n : Nat) (a b : Int) : Bool := decide (0 ≤ a ∧ a < n ∧ 0 ≤ b ∧ b < n) && upB p a.toNat b.toNat
theorem up_all (A : Option Addr) (c n B : Nat) (p : Nat → Nat) (w : World) (ht : TreeAt w B A n p) (a b : Int) :
    Calls Try.prog 15 #[.slice A n c, .int .i64 a, .int .i64 b] w fun e w' => e = .returned (.bool (upI p n a b)) ∧ w = w' := by
  by_cases h : 0 ≤ a ∧ a < n ∧ 0 ≤ b ∧ b < n
  · obtain ⟨k, rfl⟩ : ∃ k : Nat, a = k := ⟨a.toNat, by omega⟩
    obtain ⟨j, rfl⟩ : ∃ j : Nat, b = j := ⟨b.toNat, by omega⟩
    have e : upI p n k j = upB p k j := by unfold upI; simp [show k < n by omega, show j < n by omega]
    rw [e]
    exact up_any A c n B p w ht k j (by omega) (by omega)
  · have e : upI p n a b = false := by unfold upI; rw [decide_eq_false h, Bool.false_and]
    rw [e]
    exact up_out A c n B p w ht a b (by omega)
end Go.Proofs.Ytofgclmibemniaa
