/- TreeAbove: for every []int and three ints the law returns true, and the []int reads behind the call as before. No conditions. -/
import Derived.Test.YtofgclmibemniaaOpen
namespace Go.Proofs.Ytofgclmibemniaa.treeAbove
open Go.ChangeShapes Go.WideShapes Go.ChangeAt Go.RowKit

theorem upI_trans {p : Nat → Nat} {n : Nat} {a b c : Int} (h1 : upI p n a b = true) (h2 : upI p n b c = true) : upI p n a c = true := by
  unfold upI at *
  simp only [Bool.and_eq_true, decide_eq_true_eq] at *
  obtain ⟨⟨g1, g2, g3, g4⟩, h1⟩ := h1
  obtain ⟨⟨g5, g6, g7, g8⟩, h2⟩ := h2
  exact ⟨⟨g1, g2, g7, g8⟩, upB_iff.2 (anc_trans p (upB_iff.1 h1) (upB_iff.1 h2))⟩
theorem upI_antisymm {p : Nat → Nat} {n : Nat} {a b : Int} (h1 : upI p n a b = true) (h2 : upI p n b a = true) : a = b := by
  unfold upI at *
  simp only [Bool.and_eq_true, decide_eq_true_eq] at *
  have := anc_antisymm p (upB_iff.1 h1.2) (upB_iff.1 h2.2)
  omega
theorem upI_root {p : Nat → Nat} {n : Nat} (hn : 1 ≤ n) (a : Int) : upI p n 0 a = decide (0 ≤ a ∧ a < n) := by
  have : upB p (0 : Int).toNat a.toNat = true := upB_iff.2 (anc_root p _)
  unfold upI
  rw [this, Bool.and_true, decide_eq_decide]
  omega

/-- The law's head: parents that are too many, or no tree. -/
theorem walk_no (A : Option Addr) (cap n : Nat) (f : Nat → Int) (a b c : Int) (w : World) (hm : n ≤ 9223372036854775807) (h : Arr w w.heap.size A n f) (ht : 100 < n ∨ ¬ IsTree n f) :
    Calls Try.prog 7 #[.slice A n cap, .int .i64 a, .int .i64 b, .int .i64 c] w fun e w' => e = .returned (.bool true) ∧ Below w.heap.size w w' := by
  rcases (show 100 < n ∨ (n ≤ 100 ∧ ¬ IsTree n f) by by_cases h : 100 < n; exact .inl h; exact .inr ⟨by omega, ht.resolve_left h⟩) with h1 | ⟨h1, h2⟩
  all_goals
    clear ht
    go_enter Try.func7, Try.ntmps7
    go_wp2_with fail
    refine (awake_any _).mono ?_
    rintro e w1 ⟨rfl, hb1⟩
    go_wp2_with (go_at_call 10; refine (check_bad A cap n _ f w1 (h.below hb1) hm h2).mono ?_; rintro e w2 ⟨rfl, rfl⟩)
    go_ret
    exact ⟨rfl, hb1⟩
set_option maxHeartbeats 2000000 in
theorem yes_in (A : Option Addr) (cap n : Nat) (p : Nat → Nat) (a b c : Int) (w : World) (ht : TreeAt w w.heap.size A n p) (h1 : 0 ≤ a) (h2 : a < n) (e0 : upI p n 0 a = true) (hx : upI p n a b = false) :
    Calls Try.prog 7 #[.slice A n cap, .int .i64 a, .int .i64 b, .int .i64 c] w fun e w' => e = .returned (.bool true) ∧ Below w.heap.size w w' := by
  have hn := ht.2.1
  have HT := Lib.hid ht
  clear ht
  go_enter Try.func7, Try.ntmps7
  go_wp2_with fail
  refine (awake_any _).mono ?_
  rintro e w1 ⟨rfl, hb1⟩
  have hT := Lib.hid (HT.out.below hb1)
  go_wp2_with (first
    | (go_at_call 10; refine (check_ok A cap n _ p w1 hT.out).mono ?_; rintro e w2 ⟨rfl, rfl⟩)
    | (go_at_call 15; refine (up_all A cap n _ p w1 hT.out _ _).mono ?_; rintro e w2 ⟨rfl, rfl⟩))
  go_ret
  exact ⟨rfl, hb1⟩
set_option maxHeartbeats 2000000 in
theorem yes_low (A : Option Addr) (cap n : Nat) (p : Nat → Nat) (a b c : Int) (w : World) (ht : TreeAt w w.heap.size A n p) (h1 : a < 0) (e0 : upI p n 0 a = false) (hx : upI p n a b = false) :
    Calls Try.prog 7 #[.slice A n cap, .int .i64 a, .int .i64 b, .int .i64 c] w fun e w' => e = .returned (.bool true) ∧ Below w.heap.size w w' := by
  have hn := ht.2.1
  have HT := Lib.hid ht
  clear ht
  go_enter Try.func7, Try.ntmps7
  go_wp2_with fail
  refine (awake_any _).mono ?_
  rintro e w1 ⟨rfl, hb1⟩
  have hT := Lib.hid (HT.out.below hb1)
  go_wp2_with (first
    | (go_at_call 10; refine (check_ok A cap n _ p w1 hT.out).mono ?_; rintro e w2 ⟨rfl, rfl⟩)
    | (go_at_call 15; refine (up_all A cap n _ p w1 hT.out _ _).mono ?_; rintro e w2 ⟨rfl, rfl⟩))
  go_ret
  exact ⟨rfl, hb1⟩
set_option maxHeartbeats 2000000 in
theorem yes_high (A : Option Addr) (cap n : Nat) (p : Nat → Nat) (a b c : Int) (w : World) (ht : TreeAt w w.heap.size A n p) (h1 : 0 ≤ a) (h2 : (n : Int) ≤ a) (e0 : upI p n 0 a = false) (hx : upI p n a b = false) :
    Calls Try.prog 7 #[.slice A n cap, .int .i64 a, .int .i64 b, .int .i64 c] w fun e w' => e = .returned (.bool true) ∧ Below w.heap.size w w' := by
  have hn := ht.2.1
  have HT := Lib.hid ht
  clear ht
  have hd : decide (a < (n : Int)) = false := by simp; omega
  go_enter Try.func7, Try.ntmps7
  go_wp2_with fail
  refine (awake_any _).mono ?_
  rintro e w1 ⟨rfl, hb1⟩
  have hT := Lib.hid (HT.out.below hb1)
  go_wp2_with (first
    | (go_at_call 10; refine (check_ok A cap n _ p w1 hT.out).mono ?_; rintro e w2 ⟨rfl, rfl⟩)
    | (go_at_call 15; refine (up_all A cap n _ p w1 hT.out _ _).mono ?_; rintro e w2 ⟨rfl, rfl⟩))
  go_ret
  exact ⟨rfl, hb1⟩
set_option maxHeartbeats 2000000 in
theorem yes_tt (A : Option Addr) (cap n : Nat) (p : Nat → Nat) (a b c : Int) (w : World) (ht : TreeAt w w.heap.size A n p) (h1 : 0 ≤ a) (h2 : a < n) (e0 : upI p n 0 a = true) (hx : upI p n a b = true) (hy : upI p n b c = true) (hz : upI p n a c = true) (hu : upI p n b a = true) (hab : (a == b) = true) :
    Calls Try.prog 7 #[.slice A n cap, .int .i64 a, .int .i64 b, .int .i64 c] w fun e w' => e = .returned (.bool true) ∧ Below w.heap.size w w' := by
  have hn := ht.2.1
  have HT := Lib.hid ht
  clear ht
  go_enter Try.func7, Try.ntmps7
  go_wp2_with fail
  refine (awake_any _).mono ?_
  rintro e w1 ⟨rfl, hb1⟩
  have hT := Lib.hid (HT.out.below hb1)
  go_wp2_with (first
    | (go_at_call 10; refine (check_ok A cap n _ p w1 hT.out).mono ?_; rintro e w2 ⟨rfl, rfl⟩)
    | (go_at_call 15; refine (up_all A cap n _ p w1 hT.out _ _).mono ?_; rintro e w2 ⟨rfl, rfl⟩))
  go_ret
  exact ⟨rfl, hb1⟩
set_option maxHeartbeats 2000000 in
theorem yes_tf (A : Option Addr) (cap n : Nat) (p : Nat → Nat) (a b c : Int) (w : World) (ht : TreeAt w w.heap.size A n p) (h1 : 0 ≤ a) (h2 : a < n) (e0 : upI p n 0 a = true) (hx : upI p n a b = true) (hy : upI p n b c = true) (hz : upI p n a c = true) (hu : upI p n b a = false) :
    Calls Try.prog 7 #[.slice A n cap, .int .i64 a, .int .i64 b, .int .i64 c] w fun e w' => e = .returned (.bool true) ∧ Below w.heap.size w w' := by
  have hn := ht.2.1
  have HT := Lib.hid ht
  clear ht
  go_enter Try.func7, Try.ntmps7
  go_wp2_with fail
  refine (awake_any _).mono ?_
  rintro e w1 ⟨rfl, hb1⟩
  have hT := Lib.hid (HT.out.below hb1)
  go_wp2_with (first
    | (go_at_call 10; refine (check_ok A cap n _ p w1 hT.out).mono ?_; rintro e w2 ⟨rfl, rfl⟩)
    | (go_at_call 15; refine (up_all A cap n _ p w1 hT.out _ _).mono ?_; rintro e w2 ⟨rfl, rfl⟩))
  go_ret
  exact ⟨rfl, hb1⟩
set_option maxHeartbeats 2000000 in
theorem yes_ft (A : Option Addr) (cap n : Nat) (p : Nat → Nat) (a b c : Int) (w : World) (ht : TreeAt w w.heap.size A n p) (h1 : 0 ≤ a) (h2 : a < n) (e0 : upI p n 0 a = true) (hx : upI p n a b = true) (hy : upI p n b c = false) (hu : upI p n b a = true) (hab : (a == b) = true) :
    Calls Try.prog 7 #[.slice A n cap, .int .i64 a, .int .i64 b, .int .i64 c] w fun e w' => e = .returned (.bool true) ∧ Below w.heap.size w w' := by
  have hn := ht.2.1
  have HT := Lib.hid ht
  clear ht
  go_enter Try.func7, Try.ntmps7
  go_wp2_with fail
  refine (awake_any _).mono ?_
  rintro e w1 ⟨rfl, hb1⟩
  have hT := Lib.hid (HT.out.below hb1)
  go_wp2_with (first
    | (go_at_call 10; refine (check_ok A cap n _ p w1 hT.out).mono ?_; rintro e w2 ⟨rfl, rfl⟩)
    | (go_at_call 15; refine (up_all A cap n _ p w1 hT.out _ _).mono ?_; rintro e w2 ⟨rfl, rfl⟩))
  go_ret
  exact ⟨rfl, hb1⟩
set_option maxHeartbeats 2000000 in
theorem yes_ff (A : Option Addr) (cap n : Nat) (p : Nat → Nat) (a b c : Int) (w : World) (ht : TreeAt w w.heap.size A n p) (h1 : 0 ≤ a) (h2 : a < n) (e0 : upI p n 0 a = true) (hx : upI p n a b = true) (hy : upI p n b c = false) (hu : upI p n b a = false) :
    Calls Try.prog 7 #[.slice A n cap, .int .i64 a, .int .i64 b, .int .i64 c] w fun e w' => e = .returned (.bool true) ∧ Below w.heap.size w w' := by
  have hn := ht.2.1
  have HT := Lib.hid ht
  clear ht
  go_enter Try.func7, Try.ntmps7
  go_wp2_with fail
  refine (awake_any _).mono ?_
  rintro e w1 ⟨rfl, hb1⟩
  have hT := Lib.hid (HT.out.below hb1)
  go_wp2_with (first
    | (go_at_call 10; refine (check_ok A cap n _ p w1 hT.out).mono ?_; rintro e w2 ⟨rfl, rfl⟩)
    | (go_at_call 15; refine (up_all A cap n _ p w1 hT.out _ _).mono ?_; rintro e w2 ⟨rfl, rfl⟩))
  go_ret
  exact ⟨rfl, hb1⟩
theorem walk_yes (A : Option Addr) (cap n : Nat) (p : Nat → Nat) (a b c : Int) (w : World) (ht : TreeAt w w.heap.size A n p) :
    Calls Try.prog 7 #[.slice A n cap, .int .i64 a, .int .i64 b, .int .i64 c] w fun e w' => e = .returned (.bool true) ∧ Below w.heap.size w w' := by
  have e0 := upI_root (p := p) ht.1 a
  cases hx : upI p n a b
  · rcases (show (0 ≤ a ∧ a < n) ∨ a < 0 ∨ (0 ≤ a ∧ (n : Int) ≤ a) by omega) with ⟨h1, h2⟩ | h1 | ⟨h1, h2⟩
    · exact yes_in A cap n p a b c w ht h1 h2 (by rw [e0]; simpa using ⟨h1, h2⟩) hx
    · exact yes_low A cap n p a b c w ht h1 (by rw [e0]; simp; omega) hx
    · exact yes_high A cap n p a b c w ht h1 h2 (by rw [e0]; simp; omega) hx
  · have ha : 0 ≤ a ∧ a < n := by
      have hx' := hx
      unfold upI at hx'
      simp only [Bool.and_eq_true, decide_eq_true_eq] at hx'
      exact ⟨hx'.1.1, hx'.1.2.1⟩
    have e1 : upI p n 0 a = true := by rw [e0]; simpa using ha
    cases hy : upI p n b c <;> cases hu : upI p n b a
    · exact yes_ff A cap n p a b c w ht ha.1 ha.2 e1 hx hy hu
    · exact yes_ft A cap n p a b c w ht ha.1 ha.2 e1 hx hy hu (by simp [upI_antisymm hx hu])
    · exact yes_tf A cap n p a b c w ht ha.1 ha.2 e1 hx hy (upI_trans hx hy) hu
    · exact yes_tt A cap n p a b c w ht ha.1 ha.2 e1 hx hy (upI_trans hx hy) hu (by simp [upI_antisymm hx hu])
theorem walk (A : Option Addr) (cap n : Nat) (f : Nat → Int) (a b c : Int) (w : World) (_ : n ≤ cap) (hm : cap ≤ 9223372036854775807) (h : Arr w w.heap.size A n f) (_ : (Lit.int .i64 a).wf = true) (_ : (Lit.int .i64 b).wf = true) (_ : (Lit.int .i64 c).wf = true) :
    Calls Try.prog 7 #[.slice A n cap, .int .i64 a, .int .i64 b, .int .i64 c] w fun e w' => e = .returned (.bool true) ∧ Below w.heap.size w w' := by
  by_cases ht : IsTree n f
  · exact walk_yes A cap n _ a b c w (h.tree ht)
  · exact walk_no A cap n f a b c w (by omega) h (.inr ht)

theorem own : ownKnob Try.prog.godebug = none := by kernel_rfl
theorem laidOut : laidOutB Try.prog = true := by kernel_rfl
set_option maxRecDepth 100000 in
theorem lifted (os : Os) (started : os.Started) (H : Type) (enc : TypeId × Value → H) :
    ReturnsInHanded {} Try.checked os 7 .any (Rows.treeAboveSpec.pre6 enc Try.prog Try.f7 Rows.treeAboveRow.domain false) (Rows.treeAboveSpec.post enc Try.prog Try.f7 false true false false) := by
  refine returnsInHanded_of_change (C := Try.checked) own started (by kernel_rfl) Try.func7
    (ChangeSpec.witness6 (enc := enc) (C := Try.checked) false ⟨#[], #[.slice none 0 0, .int .i64 0, .int .i64 0, .int .i64 0], []⟩ 8 (by kernel_rfl) (by kernel_rfl) (by kernel_rfl) (by kernel_rfl)) ?_
  intro W base args ds gs before hval0 hW _ _
  have hval : ∀ (j : Nat) t v, Try.f7.params[j]? = some t → args[j]? = some v → Value.okWide Try.prog W .any base t v := hval0
  have hW' := hW
  obtain ⟨p, q, hA0, hV, rfl, _, _⟩ := hW
  have hA : DataW.TrodAll enc Try.prog W 0 (fun _ => true) true Try.f7.params.toList args.toList ds p := hA0
  rw [Try.params7] at hA hval
  obtain ⟨v0, vs0, d0, ds0, p0, q0, hargs, rfl, rfl, h0, r0⟩ := trodAll_cons hA
  obtain ⟨v1, vs1, d1, ds1, p1, q1, rfl, rfl, rfl, h1, r1⟩ := trodAll_cons r0
  obtain ⟨v2, vs2, d2, ds2, p2, q2, rfl, rfl, rfl, h2, r2⟩ := trodAll_cons r1
  obtain ⟨v3, vs3, d3, ds3, p3, q3, rfl, rfl, rfl, h3, r3⟩ := trodAll_cons r2
  obtain ⟨rfl, rfl, rfl⟩ := trodAll_nil r3
  obtain rfl : args = #[v0, v1, v2, v3] := by cases args; simp_all
  obtain ⟨rfl, rfl⟩ := trodVars_none hV
  obtain ⟨a0, len0, cap0, rfl⟩ := okWide_slice Try.underlying23 (hval 0 23 v0 rfl rfl)
  have k0 := h0
  have lt0 : ∀ x ∈ p0, x.block < W.heap.size := by obtain ⟨m, hm⟩ := k0; exact DataW.trod_lt m _ _ _ hm
  obtain ⟨l0, hc0, hm0, hb0⟩ := open_arr Try.underlying23 Try.underlying3 (by kernel_rfl) h0
  obtain ⟨a1, rfl, rfl, rfl, w1⟩ := open_int Try.underlying3 (hval 1 3 v1 rfl rfl) h1
  obtain ⟨a2, rfl, rfl, rfl, w2⟩ := open_int Try.underlying3 (hval 2 3 v2 rfl rfl) h2
  obtain ⟨a3, rfl, rfl, rfl, w3⟩ := open_int Try.underlying3 (hval 3 3 v3 rfl rfl) h3
  clear hA0 hval0
  refine (walk a0 cap0 len0 l0 a1 a2 a3 W hc0 hm0 hb0 w1 w2 w3).mono fun e W' ⟨he, bel⟩ => ?_
  subst he
  exact ⟨_, rfl, _, _, _, [], _, [], hW', trodAll_mk1 (shut_bool Try.underlying4 _), (trodAll_cons_mk (Below.trod laidOut (by kernel_rfl) (of_decide_eq_true (by kernel_rfl)) k0 bel lt0) (trodAll_cons_mk (shut_int Try.underlying3 w1) (trodAll_cons_mk (shut_int Try.underlying3 w2) (trodAll_cons_mk (shut_int Try.underlying3 w3) trodAll_mk0)))), rfl, bel.frame _, fun h => by cases h⟩
theorem over : Rows.treeAboveRow.holds Try.pinned (OpenSpec.ofChange Rows.treeAboveSpec) :=
  OpenClaim.holds_of_wide 7 Try.f7 rfl rfl rfl rfl rfl rfl rfl ⟨rfl, rfl, rfl, rfl, rfl⟩ rfl rfl rfl rfl rfl (by kernel_rfl) Try.func7 (by kernel_rfl)
    (of_decide_eq_true (by kernel_rfl)) (by unfold Func.isWrapper; first | (rw [if_pos (by decide +kernel)]; kernel_rfl) | (rw [if_neg (by decide +kernel)]; exact ⟨rfl, rfl⟩))
    (fun os started H enc _ => lifted os started H enc)
theorem proved : Rows.TreeAboveSaid := over
end Go.Proofs.Ytofgclmibemniaa.treeAbove
