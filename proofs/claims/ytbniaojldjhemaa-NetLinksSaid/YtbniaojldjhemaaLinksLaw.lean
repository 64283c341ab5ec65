/- NetLinks: for every []int and two ints the law returns true, and the []int reads behind the call as before. No conditions. -/
import Derived.Test.YtbniaojldjhemaaAwake
namespace Go.Proofs.Ytbniaojldjhemaa.netLinks
open Go.ChangeShapes Go.WideShapes Go.ChangeAt Go.RowKit

set_option maxRecDepth 100000 in
theorem walk_no (A : Option Addr) (cap n : Nat) (f : Nat → Int) (a b : Int) (w : World) (hm : n ≤ 9223372036854775807) (h : Arr w w.heap.size A n f) (ht : 100 < n ∨ ¬ IsTree n f) :
    Calls Try.prog 8 #[.slice A n cap, .int .i64 a, .int .i64 b] w fun e w' => e = .returned (.bool true) ∧ Below w.heap.size w w' := by
  rcases (show 100 < n ∨ (n ≤ 100 ∧ ¬ IsTree n f) by by_cases h : 100 < n; exact .inl h; exact .inr ⟨by omega, ht.resolve_left h⟩) with h1 | ⟨h1, h2⟩
  all_goals
    clear ht
    go_enter Try.func8, Try.ntmps8
    go_wp2_with fail
    refine (awake_any _).mono ?_
    rintro e w1 ⟨rfl, hb1⟩
    go_wp2_with (go_at_call 12; refine (new_bad A cap n _ f w1 (h.below hb1) hm h2).mono ?_; rintro e w2 ⟨rfl, rfl⟩)
    go_ret
    exact ⟨rfl, hb1⟩
theorem no_link {p : Nat → Nat} {n : Nat} {L : List Link} {a b : Int} (h : LinksOf p n L) (hno : ∀ j : Nat, 1 ≤ j → j < n → ¬ (a = j ∧ b = p j) ∧ ¬ (a = p j ∧ b = j)) : ∀ x ∈ L, ¬ (x.f = a ∧ x.t = b) := fun x hx ⟨e1, e2⟩ => by
  obtain ⟨j, j1, j2, ⟨e3, e4⟩ | ⟨e3, e4⟩⟩ := h.only x hx
  · exact (hno j j1 j2).1 ⟨by omega, by omega⟩
  · exact (hno j j1 j2).2 ⟨by omega, by omega⟩
set_option maxRecDepth 100000 in
set_option maxHeartbeats 2000000 in
theorem no1 (A : Option Addr) (cap n : Nat) (p : Nat → Nat) (a b : Int) (w : World) (ht : TreeAt w w.heap.size A n p) (wa : (Lit.int .i64 (a)).wf = true) (wb : (Lit.int .i64 (b)).wf = true) (h1 : a < 0) (hno0 : ∀ q : Nat, 1 ≤ q → q < n → ¬ ((a) = (q : Int) ∧ (b) = (p q : Int)) ∧ ¬ ((a) = (p q : Int) ∧ (b) = (q : Int))) :
    Calls Try.prog 8 #[.slice A n cap, .int .i64 (a), .int .i64 (b)] w fun e w' => e = .returned (.bool true) ∧ Below w.heap.size w w' := by
  have hn := ht.2.1
  have hn1 := ht.1
  have g1 : decide ((100 : Int) < (n : Int)) = false := by simp; omega
  have HT := Lib.hid ht
  obtain ⟨_, _, hg, bk, off, rfl, hbk, h0, hc⟩ := ht
  have HC := Lib.hid hc
  have HG := Lib.hid hg
  clear h0 hc hg
  have HNO := Lib.hid hno0
  clear hno0
  go_enter Try.func8, Try.ntmps8
  go_wp2_with fail
  refine (awake_any _).mono ?_
  rintro e w1 ⟨rfl, hb1⟩
  go_wp2_with fail
  refine (new_ok _ cap n p w1 ((HT.out.below hb1).more hb1.size)).mono ?_
  rintro e w2 ⟨qn, B, L, rfl, N2, HL, hb2⟩
  have hb02 := hb1.trans (hb2.mono hb1.size)
  have hno : Hid (∀ x ∈ L, ¬ (x.f = a ∧ x.t = b)) := no_link HL HNO.out
  clear HL
  go_wp2_with fail
  refine (send_out w2 _ qn B L _ N2 (a) (b) _ wa wb hno.out).mono ?_
  rintro e w3 ⟨rfl, rfl⟩
  go_wp2_with fail
  refine (take_out w2 _ qn B L _ N2 (a) (b) wa wb hno.out).mono ?_
  rintro e w3 ⟨rfl, rfl⟩
  go_wp2_with fail
  refine (drop_out w2 _ qn B L _ N2 (a) (b) wa wb hno.out).mono ?_
  rintro e w3 ⟨rfl, rfl⟩
  go_wp2_with fail
  refine (twice_out w2 _ qn B L _ N2 (a) (b) wa wb hno.out).mono ?_
  rintro e w3 ⟨rfl, rfl⟩
  go_wp2_with fail
  refine (turn_out w2 _ qn B L _ N2 (a) (b) wa wb hno.out).mono ?_
  rintro e w3 ⟨rfl, rfl⟩
  go_wp2_with fail
  refine (long_out w2 _ qn B L _ N2 (a) (b) wa wb hno.out).mono ?_
  rintro e w3 ⟨rfl, rfl⟩
  go_wp2_with fail
  go_ret
  exact ⟨rfl, hb02⟩
set_option maxRecDepth 100000 in
set_option maxHeartbeats 2000000 in
theorem no2 (A : Option Addr) (cap n : Nat) (p : Nat → Nat) (a b : Int) (w : World) (ht : TreeAt w w.heap.size A n p) (wa : (Lit.int .i64 (a)).wf = true) (wb : (Lit.int .i64 (b)).wf = true) (h1 : 0 ≤ a) (h2 : b < 0) (hno0 : ∀ q : Nat, 1 ≤ q → q < n → ¬ ((a) = (q : Int) ∧ (b) = (p q : Int)) ∧ ¬ ((a) = (p q : Int) ∧ (b) = (q : Int))) :
    Calls Try.prog 8 #[.slice A n cap, .int .i64 (a), .int .i64 (b)] w fun e w' => e = .returned (.bool true) ∧ Below w.heap.size w w' := by
  have hn := ht.2.1
  have hn1 := ht.1
  have g1 : decide ((100 : Int) < (n : Int)) = false := by simp; omega
  have HT := Lib.hid ht
  obtain ⟨_, _, hg, bk, off, rfl, hbk, h0, hc⟩ := ht
  have HC := Lib.hid hc
  have HG := Lib.hid hg
  clear h0 hc hg
  have HNO := Lib.hid hno0
  clear hno0
  go_enter Try.func8, Try.ntmps8
  go_wp2_with fail
  refine (awake_any _).mono ?_
  rintro e w1 ⟨rfl, hb1⟩
  go_wp2_with fail
  refine (new_ok _ cap n p w1 ((HT.out.below hb1).more hb1.size)).mono ?_
  rintro e w2 ⟨qn, B, L, rfl, N2, HL, hb2⟩
  have hb02 := hb1.trans (hb2.mono hb1.size)
  have hno : Hid (∀ x ∈ L, ¬ (x.f = a ∧ x.t = b)) := no_link HL HNO.out
  clear HL
  go_wp2_with fail
  refine (send_out w2 _ qn B L _ N2 (a) (b) _ wa wb hno.out).mono ?_
  rintro e w3 ⟨rfl, rfl⟩
  go_wp2_with fail
  refine (take_out w2 _ qn B L _ N2 (a) (b) wa wb hno.out).mono ?_
  rintro e w3 ⟨rfl, rfl⟩
  go_wp2_with fail
  refine (drop_out w2 _ qn B L _ N2 (a) (b) wa wb hno.out).mono ?_
  rintro e w3 ⟨rfl, rfl⟩
  go_wp2_with fail
  refine (twice_out w2 _ qn B L _ N2 (a) (b) wa wb hno.out).mono ?_
  rintro e w3 ⟨rfl, rfl⟩
  go_wp2_with fail
  refine (turn_out w2 _ qn B L _ N2 (a) (b) wa wb hno.out).mono ?_
  rintro e w3 ⟨rfl, rfl⟩
  go_wp2_with fail
  refine (long_out w2 _ qn B L _ N2 (a) (b) wa wb hno.out).mono ?_
  rintro e w3 ⟨rfl, rfl⟩
  go_wp2_with fail
  go_ret
  exact ⟨rfl, hb02⟩
set_option maxRecDepth 100000 in
set_option maxHeartbeats 2000000 in
theorem no3 (A : Option Addr) (cap n : Nat) (p : Nat → Nat) (a b : Int) (w : World) (ht : TreeAt w w.heap.size A n p) (wa : (Lit.int .i64 (a)).wf = true) (wb : (Lit.int .i64 (b)).wf = true) (h1 : 0 ≤ a) (h2 : 0 ≤ b) (h3 : (n : Int) ≤ a) (hno0 : ∀ q : Nat, 1 ≤ q → q < n → ¬ ((a) = (q : Int) ∧ (b) = (p q : Int)) ∧ ¬ ((a) = (p q : Int) ∧ (b) = (q : Int))) :
    Calls Try.prog 8 #[.slice A n cap, .int .i64 (a), .int .i64 (b)] w fun e w' => e = .returned (.bool true) ∧ Below w.heap.size w w' := by
  have hn := ht.2.1
  have hn1 := ht.1
  have g1 : decide ((100 : Int) < (n : Int)) = false := by simp; omega
  have HT := Lib.hid ht
  obtain ⟨_, _, hg, bk, off, rfl, hbk, h0, hc⟩ := ht
  have HC := Lib.hid hc
  have HG := Lib.hid hg
  clear h0 hc hg
  have k3 : decide (a < (n : Int)) = false := by simp; omega
  have HNO := Lib.hid hno0
  clear hno0
  go_enter Try.func8, Try.ntmps8
  go_wp2_with fail
  refine (awake_any _).mono ?_
  rintro e w1 ⟨rfl, hb1⟩
  go_wp2_with fail
  refine (new_ok _ cap n p w1 ((HT.out.below hb1).more hb1.size)).mono ?_
  rintro e w2 ⟨qn, B, L, rfl, N2, HL, hb2⟩
  have hb02 := hb1.trans (hb2.mono hb1.size)
  have hno : Hid (∀ x ∈ L, ¬ (x.f = a ∧ x.t = b)) := no_link HL HNO.out
  clear HL
  go_wp2_with fail
  refine (send_out w2 _ qn B L _ N2 (a) (b) _ wa wb hno.out).mono ?_
  rintro e w3 ⟨rfl, rfl⟩
  go_wp2_with fail
  refine (take_out w2 _ qn B L _ N2 (a) (b) wa wb hno.out).mono ?_
  rintro e w3 ⟨rfl, rfl⟩
  go_wp2_with fail
  refine (drop_out w2 _ qn B L _ N2 (a) (b) wa wb hno.out).mono ?_
  rintro e w3 ⟨rfl, rfl⟩
  go_wp2_with fail
  refine (twice_out w2 _ qn B L _ N2 (a) (b) wa wb hno.out).mono ?_
  rintro e w3 ⟨rfl, rfl⟩
  go_wp2_with fail
  refine (turn_out w2 _ qn B L _ N2 (a) (b) wa wb hno.out).mono ?_
  rintro e w3 ⟨rfl, rfl⟩
  go_wp2_with fail
  refine (long_out w2 _ qn B L _ N2 (a) (b) wa wb hno.out).mono ?_
  rintro e w3 ⟨rfl, rfl⟩
  go_wp2_with fail
  go_ret
  exact ⟨rfl, hb02⟩
set_option maxRecDepth 100000 in
set_option maxHeartbeats 2000000 in
theorem no4 (A : Option Addr) (cap n : Nat) (p : Nat → Nat) (a b : Int) (w : World) (ht : TreeAt w w.heap.size A n p) (wa : (Lit.int .i64 (a)).wf = true) (wb : (Lit.int .i64 (b)).wf = true) (h1 : 0 ≤ a) (h2 : 0 ≤ b) (h3 : a < (n : Int)) (h4 : (n : Int) ≤ b) (hno0 : ∀ q : Nat, 1 ≤ q → q < n → ¬ ((a) = (q : Int) ∧ (b) = (p q : Int)) ∧ ¬ ((a) = (p q : Int) ∧ (b) = (q : Int))) :
    Calls Try.prog 8 #[.slice A n cap, .int .i64 (a), .int .i64 (b)] w fun e w' => e = .returned (.bool true) ∧ Below w.heap.size w w' := by
  have hn := ht.2.1
  have hn1 := ht.1
  have g1 : decide ((100 : Int) < (n : Int)) = false := by simp; omega
  have HT := Lib.hid ht
  obtain ⟨_, _, hg, bk, off, rfl, hbk, h0, hc⟩ := ht
  have HC := Lib.hid hc
  have HG := Lib.hid hg
  clear h0 hc hg
  have k4 : decide (b < (n : Int)) = false := by simp; omega
  have HNO := Lib.hid hno0
  clear hno0
  go_enter Try.func8, Try.ntmps8
  go_wp2_with fail
  refine (awake_any _).mono ?_
  rintro e w1 ⟨rfl, hb1⟩
  go_wp2_with fail
  refine (new_ok _ cap n p w1 ((HT.out.below hb1).more hb1.size)).mono ?_
  rintro e w2 ⟨qn, B, L, rfl, N2, HL, hb2⟩
  have hb02 := hb1.trans (hb2.mono hb1.size)
  have hno : Hid (∀ x ∈ L, ¬ (x.f = a ∧ x.t = b)) := no_link HL HNO.out
  clear HL
  go_wp2_with fail
  refine (send_out w2 _ qn B L _ N2 (a) (b) _ wa wb hno.out).mono ?_
  rintro e w3 ⟨rfl, rfl⟩
  go_wp2_with fail
  refine (take_out w2 _ qn B L _ N2 (a) (b) wa wb hno.out).mono ?_
  rintro e w3 ⟨rfl, rfl⟩
  go_wp2_with fail
  refine (drop_out w2 _ qn B L _ N2 (a) (b) wa wb hno.out).mono ?_
  rintro e w3 ⟨rfl, rfl⟩
  go_wp2_with fail
  refine (twice_out w2 _ qn B L _ N2 (a) (b) wa wb hno.out).mono ?_
  rintro e w3 ⟨rfl, rfl⟩
  go_wp2_with fail
  refine (turn_out w2 _ qn B L _ N2 (a) (b) wa wb hno.out).mono ?_
  rintro e w3 ⟨rfl, rfl⟩
  go_wp2_with fail
  refine (long_out w2 _ qn B L _ N2 (a) (b) wa wb hno.out).mono ?_
  rintro e w3 ⟨rfl, rfl⟩
  go_wp2_with fail
  go_ret
  exact ⟨rfl, hb02⟩
set_option maxRecDepth 100000 in
set_option maxHeartbeats 2000000 in
theorem no5 (A : Option Addr) (cap n : Nat) (p : Nat → Nat)  (w : World) (ht : TreeAt w w.heap.size A n p) (wa : (Lit.int .i64 (0)).wf = true) (wb : (Lit.int .i64 (0)).wf = true) (hno0 : ∀ q : Nat, 1 ≤ q → q < n → ¬ ((0) = (q : Int) ∧ (0) = (p q : Int)) ∧ ¬ ((0) = (p q : Int) ∧ (0) = (q : Int))) :
    Calls Try.prog 8 #[.slice A n cap, .int .i64 (0), .int .i64 (0)] w fun e w' => e = .returned (.bool true) ∧ Below w.heap.size w w' := by
  have hn := ht.2.1
  have hn1 := ht.1
  have g1 : decide ((100 : Int) < (n : Int)) = false := by simp; omega
  have HT := Lib.hid ht
  obtain ⟨_, _, hg, bk, off, rfl, hbk, h0, hc⟩ := ht
  have HC := Lib.hid hc
  have HG := Lib.hid hg
  clear h0 hc hg
  have k5 : (0 : Int) < (n : Int) := by omega
  have HNO := Lib.hid hno0
  clear hno0
  go_enter Try.func8, Try.ntmps8
  go_wp2_with fail
  refine (awake_any _).mono ?_
  rintro e w1 ⟨rfl, hb1⟩
  go_wp2_with fail
  refine (new_ok _ cap n p w1 ((HT.out.below hb1).more hb1.size)).mono ?_
  rintro e w2 ⟨qn, B, L, rfl, N2, HL, hb2⟩
  have hb02 := hb1.trans (hb2.mono hb1.size)
  have hno : Hid (∀ x ∈ L, ¬ (x.f = 0 ∧ x.t = 0)) := no_link HL HNO.out
  clear HL
  go_wp2_with fail
  refine (send_out w2 _ qn B L _ N2 (0) (0) _ wa wb hno.out).mono ?_
  rintro e w3 ⟨rfl, rfl⟩
  go_wp2_with fail
  refine (take_out w2 _ qn B L _ N2 (0) (0) wa wb hno.out).mono ?_
  rintro e w3 ⟨rfl, rfl⟩
  go_wp2_with fail
  refine (drop_out w2 _ qn B L _ N2 (0) (0) wa wb hno.out).mono ?_
  rintro e w3 ⟨rfl, rfl⟩
  go_wp2_with fail
  refine (twice_out w2 _ qn B L _ N2 (0) (0) wa wb hno.out).mono ?_
  rintro e w3 ⟨rfl, rfl⟩
  go_wp2_with fail
  refine (turn_out w2 _ qn B L _ N2 (0) (0) wa wb hno.out).mono ?_
  rintro e w3 ⟨rfl, rfl⟩
  go_wp2_with fail
  refine (long_out w2 _ qn B L _ N2 (0) (0) wa wb hno.out).mono ?_
  rintro e w3 ⟨rfl, rfl⟩
  go_wp2_with fail
  go_ret
  exact ⟨rfl, hb02⟩
set_option maxRecDepth 100000 in
set_option maxHeartbeats 2000000 in
theorem no6 (A : Option Addr) (cap n : Nat) (p : Nat → Nat) (j : Nat) (w : World) (ht : TreeAt w w.heap.size A n p) (wa : (Lit.int .i64 (0)).wf = true) (wb : (Lit.int .i64 ((j : Int))).wf = true) (h1 : 1 ≤ j) (h2 : j < n) (h3 : p j ≠ 0) (hno0 : ∀ q : Nat, 1 ≤ q → q < n → ¬ ((0) = (q : Int) ∧ ((j : Int)) = (p q : Int)) ∧ ¬ ((0) = (p q : Int) ∧ ((j : Int)) = (q : Int))) :
    Calls Try.prog 8 #[.slice A n cap, .int .i64 (0), .int .i64 ((j : Int))] w fun e w' => e = .returned (.bool true) ∧ Below w.heap.size w w' := by
  have hn := ht.2.1
  have hn1 := ht.1
  have g1 : decide ((100 : Int) < (n : Int)) = false := by simp; omega
  have HT := Lib.hid ht
  obtain ⟨_, _, hg, bk, off, rfl, hbk, h0, hc⟩ := ht
  have HC := Lib.hid hc
  have HG := Lib.hid hg
  clear h0 hc hg
  have k1 : (0 : Int) < (j : Int) := by omega
  have k2 : (j : Int) < (n : Int) := by omega
  have k3 : (((p j : Nat) : Int) == 0) = false := by rw [beq_eq_false_iff_ne]; omega
  have k5 : (0 : Int) < (n : Int) := by omega
  have HNO := Lib.hid hno0
  clear hno0
  go_enter Try.func8, Try.ntmps8
  go_wp2_with fail
  refine (awake_any _).mono ?_
  rintro e w1 ⟨rfl, hb1⟩
  go_wp2_with fail
  refine (new_ok _ cap n p w1 ((HT.out.below hb1).more hb1.size)).mono ?_
  rintro e w2 ⟨qn, B, L, rfl, N2, HL, hb2⟩
  have hb02 := hb1.trans (hb2.mono hb1.size)
  have cj := (hb02.cell (p := ⟨bk, off + j, none⟩) hbk).trans (HC.out j (by omega) (by omega))
  have hno : Hid (∀ x ∈ L, ¬ (x.f = 0 ∧ x.t = (j : Int))) := no_link HL HNO.out
  clear HL
  go_wp2_with fail
  refine (send_out w2 _ qn B L _ N2 (0) ((j : Int)) _ wa wb hno.out).mono ?_
  rintro e w3 ⟨rfl, rfl⟩
  go_wp2_with fail
  refine (take_out w2 _ qn B L _ N2 (0) ((j : Int)) wa wb hno.out).mono ?_
  rintro e w3 ⟨rfl, rfl⟩
  go_wp2_with fail
  refine (drop_out w2 _ qn B L _ N2 (0) ((j : Int)) wa wb hno.out).mono ?_
  rintro e w3 ⟨rfl, rfl⟩
  go_wp2_with fail
  refine (twice_out w2 _ qn B L _ N2 (0) ((j : Int)) wa wb hno.out).mono ?_
  rintro e w3 ⟨rfl, rfl⟩
  go_wp2_with fail
  refine (turn_out w2 _ qn B L _ N2 (0) ((j : Int)) wa wb hno.out).mono ?_
  rintro e w3 ⟨rfl, rfl⟩
  go_wp2_with fail
  refine (long_out w2 _ qn B L _ N2 (0) ((j : Int)) wa wb hno.out).mono ?_
  rintro e w3 ⟨rfl, rfl⟩
  go_wp2_with fail
  go_ret
  exact ⟨rfl, hb02⟩
set_option maxRecDepth 100000 in
set_option maxHeartbeats 2000000 in
theorem no7 (A : Option Addr) (cap n : Nat) (p : Nat → Nat) (i : Nat) (w : World) (ht : TreeAt w w.heap.size A n p) (wa : (Lit.int .i64 ((i : Int))).wf = true) (wb : (Lit.int .i64 (0)).wf = true) (h1 : 1 ≤ i) (h2 : i < n) (h3 : p i ≠ 0) (hno0 : ∀ q : Nat, 1 ≤ q → q < n → ¬ (((i : Int)) = (q : Int) ∧ (0) = (p q : Int)) ∧ ¬ (((i : Int)) = (p q : Int) ∧ (0) = (q : Int))) :
    Calls Try.prog 8 #[.slice A n cap, .int .i64 ((i : Int)), .int .i64 (0)] w fun e w' => e = .returned (.bool true) ∧ Below w.heap.size w w' := by
  have hn := ht.2.1
  have hn1 := ht.1
  have g1 : decide ((100 : Int) < (n : Int)) = false := by simp; omega
  have HT := Lib.hid ht
  obtain ⟨_, _, hg, bk, off, rfl, hbk, h0, hc⟩ := ht
  have HC := Lib.hid hc
  have HG := Lib.hid hg
  clear h0 hc hg
  have k1 : (0 : Int) < (i : Int) := by omega
  have k2 : (i : Int) < (n : Int) := by omega
  have k3 : (((p i : Nat) : Int) == 0) = false := by rw [beq_eq_false_iff_ne]; omega
  have k5 : (0 : Int) < (n : Int) := by omega
  have HNO := Lib.hid hno0
  clear hno0
  go_enter Try.func8, Try.ntmps8
  go_wp2_with fail
  refine (awake_any _).mono ?_
  rintro e w1 ⟨rfl, hb1⟩
  go_wp2_with fail
  refine (new_ok _ cap n p w1 ((HT.out.below hb1).more hb1.size)).mono ?_
  rintro e w2 ⟨qn, B, L, rfl, N2, HL, hb2⟩
  have hb02 := hb1.trans (hb2.mono hb1.size)
  have ci := (hb02.cell (p := ⟨bk, off + i, none⟩) hbk).trans (HC.out i (by omega) (by omega))
  have hno : Hid (∀ x ∈ L, ¬ (x.f = (i : Int) ∧ x.t = 0)) := no_link HL HNO.out
  clear HL
  go_wp2_with fail
  refine (send_out w2 _ qn B L _ N2 ((i : Int)) (0) _ wa wb hno.out).mono ?_
  rintro e w3 ⟨rfl, rfl⟩
  go_wp2_with fail
  refine (take_out w2 _ qn B L _ N2 ((i : Int)) (0) wa wb hno.out).mono ?_
  rintro e w3 ⟨rfl, rfl⟩
  go_wp2_with fail
  refine (drop_out w2 _ qn B L _ N2 ((i : Int)) (0) wa wb hno.out).mono ?_
  rintro e w3 ⟨rfl, rfl⟩
  go_wp2_with fail
  refine (twice_out w2 _ qn B L _ N2 ((i : Int)) (0) wa wb hno.out).mono ?_
  rintro e w3 ⟨rfl, rfl⟩
  go_wp2_with fail
  refine (turn_out w2 _ qn B L _ N2 ((i : Int)) (0) wa wb hno.out).mono ?_
  rintro e w3 ⟨rfl, rfl⟩
  go_wp2_with fail
  refine (long_out w2 _ qn B L _ N2 ((i : Int)) (0) wa wb hno.out).mono ?_
  rintro e w3 ⟨rfl, rfl⟩
  go_wp2_with fail
  go_ret
  exact ⟨rfl, hb02⟩
set_option maxRecDepth 100000 in
set_option maxHeartbeats 2000000 in
theorem no8 (A : Option Addr) (cap n : Nat) (p : Nat → Nat) (i j : Nat) (w : World) (ht : TreeAt w w.heap.size A n p) (wa : (Lit.int .i64 ((i : Int))).wf = true) (wb : (Lit.int .i64 ((j : Int))).wf = true) (h1 : 1 ≤ i) (h2 : i < n) (h3 : 1 ≤ j) (h4 : j < n) (h5 : p i ≠ j) (h6 : p j ≠ i) (hno0 : ∀ q : Nat, 1 ≤ q → q < n → ¬ (((i : Int)) = (q : Int) ∧ ((j : Int)) = (p q : Int)) ∧ ¬ (((i : Int)) = (p q : Int) ∧ ((j : Int)) = (q : Int))) :
    Calls Try.prog 8 #[.slice A n cap, .int .i64 ((i : Int)), .int .i64 ((j : Int))] w fun e w' => e = .returned (.bool true) ∧ Below w.heap.size w w' := by
  have hn := ht.2.1
  have hn1 := ht.1
  have g1 : decide ((100 : Int) < (n : Int)) = false := by simp; omega
  have HT := Lib.hid ht
  obtain ⟨_, _, hg, bk, off, rfl, hbk, h0, hc⟩ := ht
  have HC := Lib.hid hc
  have HG := Lib.hid hg
  clear h0 hc hg
  have k1 : (0 : Int) < (i : Int) := by omega
  have k2 : (i : Int) < (n : Int) := by omega
  have k3 : (0 : Int) < (j : Int) := by omega
  have k4 : (j : Int) < (n : Int) := by omega
  have k5 : (((p i : Nat) : Int) == (j : Int)) = false := by rw [beq_eq_false_iff_ne]; omega
  have k6 : (((p j : Nat) : Int) == (i : Int)) = false := by rw [beq_eq_false_iff_ne]; omega
  have HNO := Lib.hid hno0
  clear hno0
  go_enter Try.func8, Try.ntmps8
  go_wp2_with fail
  refine (awake_any _).mono ?_
  rintro e w1 ⟨rfl, hb1⟩
  go_wp2_with fail
  refine (new_ok _ cap n p w1 ((HT.out.below hb1).more hb1.size)).mono ?_
  rintro e w2 ⟨qn, B, L, rfl, N2, HL, hb2⟩
  have hb02 := hb1.trans (hb2.mono hb1.size)
  have ci := (hb02.cell (p := ⟨bk, off + i, none⟩) hbk).trans (HC.out i (by omega) (by omega))
  have cj := (hb02.cell (p := ⟨bk, off + j, none⟩) hbk).trans (HC.out j (by omega) (by omega))
  have hno : Hid (∀ x ∈ L, ¬ (x.f = (i : Int) ∧ x.t = (j : Int))) := no_link HL HNO.out
  clear HL
  go_wp2_with fail
  refine (send_out w2 _ qn B L _ N2 ((i : Int)) ((j : Int)) _ wa wb hno.out).mono ?_
  rintro e w3 ⟨rfl, rfl⟩
  go_wp2_with fail
  refine (take_out w2 _ qn B L _ N2 ((i : Int)) ((j : Int)) wa wb hno.out).mono ?_
  rintro e w3 ⟨rfl, rfl⟩
  go_wp2_with fail
  refine (drop_out w2 _ qn B L _ N2 ((i : Int)) ((j : Int)) wa wb hno.out).mono ?_
  rintro e w3 ⟨rfl, rfl⟩
  go_wp2_with fail
  refine (twice_out w2 _ qn B L _ N2 ((i : Int)) ((j : Int)) wa wb hno.out).mono ?_
  rintro e w3 ⟨rfl, rfl⟩
  go_wp2_with fail
  refine (turn_out w2 _ qn B L _ N2 ((i : Int)) ((j : Int)) wa wb hno.out).mono ?_
  rintro e w3 ⟨rfl, rfl⟩
  go_wp2_with fail
  refine (long_out w2 _ qn B L _ N2 ((i : Int)) ((j : Int)) wa wb hno.out).mono ?_
  rintro e w3 ⟨rfl, rfl⟩
  go_wp2_with fail
  go_ret
  exact ⟨rfl, hb02⟩
set_option maxRecDepth 100000 in
set_option maxHeartbeats 2000000 in
theorem yes1 (A : Option Addr) (cap n : Nat) (p : Nat → Nat) (i j : Nat) (w : World) (ht : TreeAt w w.heap.size A n p) (_wa : (Lit.int .i64 ((i : Int))).wf = true) (_wb : (Lit.int .i64 ((j : Int))).wf = true) (h1 : 1 ≤ i) (h2 : i < n) (h3 : p i = j) :
    Calls Try.prog 8 #[.slice A n cap, .int .i64 ((i : Int)), .int .i64 ((j : Int))] w fun e w' => e = .returned (.bool true) ∧ Below w.heap.size w w' := by
  have hn := ht.2.1
  have hn1 := ht.1
  have g1 : decide ((100 : Int) < (n : Int)) = false := by simp; omega
  have HT := Lib.hid ht
  obtain ⟨_, _, hg, bk, off, rfl, hbk, h0, hc⟩ := ht
  have HC := Lib.hid hc
  have HG := Lib.hid hg
  clear h0 hc hg
  have k1 : (0 : Int) < (i : Int) := by omega
  have k2 : (i : Int) < (n : Int) := by omega
  have hji := HG.out i h1 h2
  have k3 : (j : Int) < (n : Int) := by omega
  have k4 : (0 : Int) ≤ (j : Int) := by omega
  have hab : ¬ (i : Int) = (j : Int) := by omega
  go_enter Try.func8, Try.ntmps8
  go_wp2_with fail
  refine (awake_any _).mono ?_
  rintro e w1 ⟨rfl, hb1⟩
  go_wp2_with fail
  refine (new_ok _ cap n p w1 ((HT.out.below hb1).more hb1.size)).mono ?_
  rintro e w2 ⟨qn, B, L, rfl, N2, HL, hb2⟩
  have hb02 := hb1.trans (hb2.mono hb1.size)
  have ci := (hb02.cell (p := ⟨bk, off + i, none⟩) hbk).trans (HC.out i (by omega) (by omega))
  rw [h3] at ci
  obtain ⟨x, y, hx, hy, hxf, hxt, hyf, hyt⟩ : ∃ x y : Link, x ∈ L ∧ y ∈ L ∧ x.f = (i : Int) ∧ x.t = (j : Int) ∧ y.f = (j : Int) ∧ y.t = (i : Int) := by
    obtain ⟨⟨x, hx, e1, e2⟩, ⟨y, hy, e3, e4⟩⟩ := HL.all i h1 h2
    exact ⟨x, y, hx, hy, e1, by rw [e2, h3], by rw [e3, h3], e4⟩
  have hne : y.c ≠ x.c := fun e => by
    have := N2.apart y hy x hx e
    rw [this, hxf] at hyf
    exact hab hyf
  have HX := Lib.hid (And.intro hxf hxt)
  have HY := Lib.hid (And.intro hyf hyt)
  have HNE := Lib.hid hne
  clear hxf hxt hyf hyt HL hne hab
  have s1 := send_room w2 _ qn B L _ N2 x hx none 0 0 [] (Lies.nil _ _ _) (by omega) hb2.size (by simp) (by simp)
  rw [HX.out.1, HX.out.2] at s1
  have S1 := Lib.hid s1
  clear s1
  go_wp2_with fail
  refine S1.out.mono ?_
  rintro e w3 ⟨rfl, m, hm, _, N3, T3, B3⟩
  have l1 := long_in w3 _ qn B L _ N3 x hx
  have l2 := long_in w3 _ qn B L _ N3 y hy
  rw [HX.out.1, HX.out.2] at l1
  rw [HY.out.1, HY.out.2] at l2
  simp only [if_true, List.nil_append, List.length_cons, List.length_nil, Nat.zero_add] at l1
  rw [if_neg HNE.out] at l2
  have L1 := Lib.hid l1
  have L2 := Lib.hid l2
  have d1 := drop_first w3 _ qn B L _ N3 x hx m [] (by simp)
  rw [HX.out.1, HX.out.2] at d1
  have D1 := Lib.hid d1
  clear l1 l2 d1 hm
  go_wp2_with fail
  refine L1.out.mono ?_
  rintro e w4 ⟨rfl, rfl⟩
  go_wp2_with fail
  refine L2.out.mono ?_
  rintro e w4 ⟨rfl, rfl⟩
  go_wp2_with fail
  refine D1.out.mono ?_
  rintro e w4 ⟨rfl, N4, T4, B4⟩
  have l3 := long_in w4 _ qn B L _ N4 x hx
  rw [HX.out.1, HX.out.2] at l3
  simp only [if_true, List.length_nil] at l3
  go_wp2_with fail
  refine l3.mono ?_
  rintro e w5 ⟨rfl, rfl⟩
  go_wp2_with fail
  go_ret
  exact ⟨rfl, hb02.trans ((B3.trans B4).mono hb1.size)⟩
set_option maxRecDepth 100000 in
set_option maxHeartbeats 2000000 in
theorem yes2 (A : Option Addr) (cap n : Nat) (p : Nat → Nat) (j : Nat) (w : World) (ht : TreeAt w w.heap.size A n p) (_wa : (Lit.int .i64 (0)).wf = true) (_wb : (Lit.int .i64 ((j : Int))).wf = true) (h3 : 1 ≤ j) (h4 : j < n) (h6 : p j = 0) :
    Calls Try.prog 8 #[.slice A n cap, .int .i64 (0), .int .i64 ((j : Int))] w fun e w' => e = .returned (.bool true) ∧ Below w.heap.size w w' := by
  have hn := ht.2.1
  have hn1 := ht.1
  have g1 : decide ((100 : Int) < (n : Int)) = false := by simp; omega
  have HT := Lib.hid ht
  obtain ⟨_, _, hg, bk, off, rfl, hbk, h0, hc⟩ := ht
  have HC := Lib.hid hc
  have HG := Lib.hid hg
  clear h0 hc hg
  have k3 : (0 : Int) < (j : Int) := by omega
  have k4 : (j : Int) < (n : Int) := by omega
  have k5 : (0 : Int) < (n : Int) := by omega
  have hab : ¬ (0 : Int) = (j : Int) := by omega
  go_enter Try.func8, Try.ntmps8
  go_wp2_with fail
  refine (awake_any _).mono ?_
  rintro e w1 ⟨rfl, hb1⟩
  go_wp2_with fail
  refine (new_ok _ cap n p w1 ((HT.out.below hb1).more hb1.size)).mono ?_
  rintro e w2 ⟨qn, B, L, rfl, N2, HL, hb2⟩
  have hb02 := hb1.trans (hb2.mono hb1.size)
  have cj := (hb02.cell (p := ⟨bk, off + j, none⟩) hbk).trans (HC.out j (by omega) (by omega))
  rw [h6] at cj
  obtain ⟨x, y, hx, hy, hxf, hxt, hyf, hyt⟩ : ∃ x y : Link, x ∈ L ∧ y ∈ L ∧ x.f = 0 ∧ x.t = (j : Int) ∧ y.f = (j : Int) ∧ y.t = 0 := by
    obtain ⟨⟨x, hx, e1, e2⟩, ⟨y, hy, e3, e4⟩⟩ := HL.all j h3 h4
    exact ⟨y, x, hy, hx, by rw [e3, h6]; rfl, e4, e1, by rw [e2, h6]; rfl⟩
  have hne : y.c ≠ x.c := fun e => by
    have := N2.apart y hy x hx e
    rw [this, hxf] at hyf
    exact hab hyf
  have HX := Lib.hid (And.intro hxf hxt)
  have HY := Lib.hid (And.intro hyf hyt)
  have HNE := Lib.hid hne
  clear hxf hxt hyf hyt HL hne hab
  have s1 := send_room w2 _ qn B L _ N2 x hx none 0 0 [] (Lies.nil _ _ _) (by omega) hb2.size (by simp) (by simp)
  rw [HX.out.1, HX.out.2] at s1
  have S1 := Lib.hid s1
  clear s1
  go_wp2_with fail
  refine S1.out.mono ?_
  rintro e w3 ⟨rfl, m, hm, _, N3, T3, B3⟩
  have l1 := long_in w3 _ qn B L _ N3 x hx
  have l2 := long_in w3 _ qn B L _ N3 y hy
  rw [HX.out.1, HX.out.2] at l1
  rw [HY.out.1, HY.out.2] at l2
  simp only [if_true, List.nil_append, List.length_cons, List.length_nil, Nat.zero_add] at l1
  rw [if_neg HNE.out] at l2
  have L1 := Lib.hid l1
  have L2 := Lib.hid l2
  have d1 := drop_first w3 _ qn B L _ N3 x hx m [] (by simp)
  rw [HX.out.1, HX.out.2] at d1
  have D1 := Lib.hid d1
  clear l1 l2 d1 hm
  go_wp2_with fail
  refine L1.out.mono ?_
  rintro e w4 ⟨rfl, rfl⟩
  go_wp2_with fail
  refine L2.out.mono ?_
  rintro e w4 ⟨rfl, rfl⟩
  go_wp2_with fail
  refine D1.out.mono ?_
  rintro e w4 ⟨rfl, N4, T4, B4⟩
  have l3 := long_in w4 _ qn B L _ N4 x hx
  rw [HX.out.1, HX.out.2] at l3
  simp only [if_true, List.length_nil] at l3
  go_wp2_with fail
  refine l3.mono ?_
  rintro e w5 ⟨rfl, rfl⟩
  go_wp2_with fail
  go_ret
  exact ⟨rfl, hb02.trans ((B3.trans B4).mono hb1.size)⟩
set_option maxRecDepth 100000 in
set_option maxHeartbeats 2000000 in
theorem yes3 (A : Option Addr) (cap n : Nat) (p : Nat → Nat) (i j : Nat) (w : World) (ht : TreeAt w w.heap.size A n p) (_wa : (Lit.int .i64 ((i : Int))).wf = true) (_wb : (Lit.int .i64 ((j : Int))).wf = true) (h1 : 1 ≤ i) (h2 : i < n) (h3 : 1 ≤ j) (h4 : j < n) (h5 : p i ≠ j) (h6 : p j = i) :
    Calls Try.prog 8 #[.slice A n cap, .int .i64 ((i : Int)), .int .i64 ((j : Int))] w fun e w' => e = .returned (.bool true) ∧ Below w.heap.size w w' := by
  have hn := ht.2.1
  have hn1 := ht.1
  have g1 : decide ((100 : Int) < (n : Int)) = false := by simp; omega
  have HT := Lib.hid ht
  obtain ⟨_, _, hg, bk, off, rfl, hbk, h0, hc⟩ := ht
  have HC := Lib.hid hc
  have HG := Lib.hid hg
  clear h0 hc hg
  have k1 : (0 : Int) < (i : Int) := by omega
  have k2 : (i : Int) < (n : Int) := by omega
  have k3 : (0 : Int) < (j : Int) := by omega
  have k4 : (j : Int) < (n : Int) := by omega
  have hij := HG.out j h3 h4
  have k5 : (((p i : Nat) : Int) == (j : Int)) = false := by rw [beq_eq_false_iff_ne]; omega
  have hab : ¬ (i : Int) = (j : Int) := by omega
  go_enter Try.func8, Try.ntmps8
  go_wp2_with fail
  refine (awake_any _).mono ?_
  rintro e w1 ⟨rfl, hb1⟩
  go_wp2_with fail
  refine (new_ok _ cap n p w1 ((HT.out.below hb1).more hb1.size)).mono ?_
  rintro e w2 ⟨qn, B, L, rfl, N2, HL, hb2⟩
  have hb02 := hb1.trans (hb2.mono hb1.size)
  have ci := (hb02.cell (p := ⟨bk, off + i, none⟩) hbk).trans (HC.out i (by omega) (by omega))
  have cj := (hb02.cell (p := ⟨bk, off + j, none⟩) hbk).trans (HC.out j (by omega) (by omega))
  rw [h6] at cj
  obtain ⟨x, y, hx, hy, hxf, hxt, hyf, hyt⟩ : ∃ x y : Link, x ∈ L ∧ y ∈ L ∧ x.f = (i : Int) ∧ x.t = (j : Int) ∧ y.f = (j : Int) ∧ y.t = (i : Int) := by
    obtain ⟨⟨x, hx, e1, e2⟩, ⟨y, hy, e3, e4⟩⟩ := HL.all j h3 h4
    exact ⟨y, x, hy, hx, by rw [e3, h6], e4, e1, by rw [e2, h6]⟩
  have hne : y.c ≠ x.c := fun e => by
    have := N2.apart y hy x hx e
    rw [this, hxf] at hyf
    exact hab hyf
  have HX := Lib.hid (And.intro hxf hxt)
  have HY := Lib.hid (And.intro hyf hyt)
  have HNE := Lib.hid hne
  clear hxf hxt hyf hyt HL hne hab
  have s1 := send_room w2 _ qn B L _ N2 x hx none 0 0 [] (Lies.nil _ _ _) (by omega) hb2.size (by simp) (by simp)
  rw [HX.out.1, HX.out.2] at s1
  have S1 := Lib.hid s1
  clear s1
  go_wp2_with fail
  refine S1.out.mono ?_
  rintro e w3 ⟨rfl, m, hm, _, N3, T3, B3⟩
  have l1 := long_in w3 _ qn B L _ N3 x hx
  have l2 := long_in w3 _ qn B L _ N3 y hy
  rw [HX.out.1, HX.out.2] at l1
  rw [HY.out.1, HY.out.2] at l2
  simp only [if_true, List.nil_append, List.length_cons, List.length_nil, Nat.zero_add] at l1
  rw [if_neg HNE.out] at l2
  have L1 := Lib.hid l1
  have L2 := Lib.hid l2
  have d1 := drop_first w3 _ qn B L _ N3 x hx m [] (by simp)
  rw [HX.out.1, HX.out.2] at d1
  have D1 := Lib.hid d1
  clear l1 l2 d1 hm
  go_wp2_with fail
  refine L1.out.mono ?_
  rintro e w4 ⟨rfl, rfl⟩
  go_wp2_with fail
  refine L2.out.mono ?_
  rintro e w4 ⟨rfl, rfl⟩
  go_wp2_with fail
  refine D1.out.mono ?_
  rintro e w4 ⟨rfl, N4, T4, B4⟩
  have l3 := long_in w4 _ qn B L _ N4 x hx
  rw [HX.out.1, HX.out.2] at l3
  simp only [if_true, List.length_nil] at l3
  go_wp2_with fail
  refine l3.mono ?_
  rintro e w5 ⟨rfl, rfl⟩
  go_wp2_with fail
  go_ret
  exact ⟨rfl, hb02.trans ((B3.trans B4).mono hb1.size)⟩
theorem walk (A : Option Addr) (cap n : Nat) (f : Nat → Int) (a b : Int) (w : World) (_ : n ≤ cap) (hm : cap ≤ 9223372036854775807) (h : Arr w w.heap.size A n f) (wa : (Lit.int .i64 a).wf = true) (wb : (Lit.int .i64 b).wf = true) :
    Calls Try.prog 8 #[.slice A n cap, .int .i64 a, .int .i64 b] w fun e w' => e = .returned (.bool true) ∧ Below w.heap.size w w' := by
  by_cases ht : IsTree n f
  · have hT := h.tree ht
    have hg := hT.2.2.1
    have hn1 := hT.1
    generalize (fun k => (f k).toNat) = p at hT hg
    by_cases h1 : a < 0
    · exact no1 A cap n p a b w hT wa wb h1 (fun j _ _ => ⟨fun e => by omega, fun e => by omega⟩)
    by_cases h2 : b < 0
    · exact no2 A cap n p a b w hT wa wb (by omega) h2 (fun j _ _ => ⟨fun e => by omega, fun e => by omega⟩)
    by_cases h3 : (n : Int) ≤ a
    · exact no3 A cap n p a b w hT wa wb (by omega) (by omega) h3 (fun j j1 j2 => ⟨fun e => by omega, fun e => by have := hg j j1 j2; omega⟩)
    by_cases h4 : (n : Int) ≤ b
    · exact no4 A cap n p a b w hT wa wb (by omega) (by omega) (by omega) h4 (fun j j1 j2 => ⟨fun e => by have := hg j j1 j2; omega, fun e => by omega⟩)
    obtain ⟨i, rfl⟩ : ∃ i : Nat, a = i := ⟨a.toNat, by omega⟩
    obtain ⟨j, rfl⟩ : ∃ j : Nat, b = j := ⟨b.toNat, by omega⟩
    have hi : i < n := by omega
    have hj : j < n := by omega
    clear h1 h2 h3 h4
    by_cases i0 : i = 0
    · by_cases j0 : j = 0
      · subst i0 j0
        exact no5 A cap n p w hT wa wb (fun k k1 k2 => ⟨fun e => by omega, fun e => by omega⟩)
      · by_cases hp : p j = 0
        · subst i0
          exact yes2 A cap n p j w hT wa wb (by omega) hj hp
        · subst i0
          exact no6 A cap n p j w hT wa wb (by omega) hj hp (fun k k1 k2 => ⟨fun e => by omega, fun ⟨e1, e2⟩ => by
            have : k = j := by omega
            subst this
            omega⟩)
    · by_cases hp : p i = j
      · exact yes1 A cap n p i j w hT wa wb (by omega) hi hp
      · by_cases j0 : j = 0
        · subst j0
          exact no7 A cap n p i w hT wa wb (by omega) hi hp (fun k k1 k2 => ⟨fun ⟨e1, e2⟩ => by
            have : k = i := by omega
            subst this
            omega, fun e => by omega⟩)
        · by_cases hq : p j = i
          · exact yes3 A cap n p i j w hT wa wb (by omega) hi (by omega) hj hp hq
          · exact no8 A cap n p i j w hT wa wb (by omega) hi (by omega) hj hp hq (fun k k1 k2 => ⟨fun ⟨e1, e2⟩ => by
              have : k = i := by omega
              subst this
              omega, fun ⟨e1, e2⟩ => by
              have : k = j := by omega
              subst this
              omega⟩)
  · exact walk_no A cap n f a b w (by omega) h (.inr ht)

theorem own : ownKnob Try.prog.godebug = none := by kernel_rfl
theorem laidOut : laidOutB Try.prog = true := by kernel_rfl
set_option maxRecDepth 100000 in
theorem lifted (os : Os) (started : os.Started) (H : Type) (enc : TypeId × Value → H) :
    ReturnsInHanded {} Try.checked os 8 .any (Rows.netLinksSpec.pre6 enc Try.prog Try.f8 Rows.netLinksRow.domain false) (Rows.netLinksSpec.post enc Try.prog Try.f8 false true false false) := by
  refine returnsInHanded_of_change (C := Try.checked) own started (by kernel_rfl) Try.func8
    (ChangeSpec.witness6 (enc := enc) (C := Try.checked) false ⟨#[], #[.slice none 0 0, .int .i64 0, .int .i64 0], []⟩ 8 (by kernel_rfl) (by kernel_rfl) (by kernel_rfl) (by kernel_rfl)) ?_
  intro W base args ds gs before hval0 hW _ _
  have hval : ∀ (j : Nat) t v, Try.f8.params[j]? = some t → args[j]? = some v → Value.okWide Try.prog W .any base t v := hval0
  have hW' := hW
  obtain ⟨p, q, hA0, hV, rfl, _, _⟩ := hW
  have hA : DataW.TrodAll enc Try.prog W 0 (fun _ => true) true Try.f8.params.toList args.toList ds p := hA0
  rw [Try.params8] at hA hval
  obtain ⟨v0, vs0, d0, ds0, p0, q0, hargs, rfl, rfl, h0, r0⟩ := trodAll_cons hA
  obtain ⟨v1, vs1, d1, ds1, p1, q1, rfl, rfl, rfl, h1, r1⟩ := trodAll_cons r0
  obtain ⟨v2, vs2, d2, ds2, p2, q2, rfl, rfl, rfl, h2, r2⟩ := trodAll_cons r1
  obtain ⟨rfl, rfl, rfl⟩ := trodAll_nil r2
  obtain rfl : args = #[v0, v1, v2] := by cases args; simp_all
  obtain ⟨rfl, rfl⟩ := trodVars_none hV
  obtain ⟨a0, len0, cap0, rfl⟩ := okWide_slice Try.underlying29 (hval 0 29 v0 rfl rfl)
  have k0 := h0
  have lt0 : ∀ x ∈ p0, x.block < W.heap.size := by obtain ⟨m, hm⟩ := k0; exact DataW.trod_lt m _ _ _ hm
  obtain ⟨l0, hc0, hm0, hb0⟩ := open_arr Try.underlying29 Try.underlying3 (by kernel_rfl) h0
  obtain ⟨a1, rfl, rfl, rfl, w1⟩ := open_int Try.underlying3 (hval 1 3 v1 rfl rfl) h1
  obtain ⟨a2, rfl, rfl, rfl, w2⟩ := open_int Try.underlying3 (hval 2 3 v2 rfl rfl) h2
  clear hA0 hval0
  refine (walk a0 cap0 len0 l0 a1 a2 W hc0 hm0 hb0 w1 w2).mono fun e W' ⟨he, bel⟩ => ?_
  subst he
  exact ⟨_, rfl, _, _, _, [], _, [], hW', trodAll_mk1 (shut_bool Try.underlying4 _), (trodAll_cons_mk (Below.trod laidOut (by kernel_rfl) (of_decide_eq_true (by kernel_rfl)) k0 bel lt0) (trodAll_cons_mk (shut_int Try.underlying3 w1) (trodAll_cons_mk (shut_int Try.underlying3 w2) trodAll_mk0))), rfl, bel.frame _, fun h => by cases h⟩
theorem over : Rows.netLinksRow.holds Try.pinned (OpenSpec.ofChange Rows.netLinksSpec) :=
  OpenClaim.holds_of_wide 8 Try.f8 rfl rfl rfl rfl rfl rfl rfl ⟨rfl, rfl, rfl, rfl, rfl⟩ rfl rfl rfl rfl rfl (by kernel_rfl) Try.func8 (by kernel_rfl)
    (of_decide_eq_true (by kernel_rfl)) (by unfold Func.isWrapper; first | (rw [if_pos (by decide +kernel)]; kernel_rfl) | (rw [if_neg (by decide +kernel)]; exact ⟨rfl, rfl⟩))
    (fun os started H enc _ => lifted os started H enc)
theorem proved : Rows.NetLinksSaid := over
end Go.Proofs.Ytbniaojldjhemaa.netLinks
