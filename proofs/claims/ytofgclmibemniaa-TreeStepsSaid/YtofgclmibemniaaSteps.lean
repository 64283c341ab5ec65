/- TreeSteps: for every []int and two ints the law returns true, and the []int reads behind the call as before. No conditions. -/
import Derived.Test.YtofgclmibemniaaOpen
namespace Go.Proofs.Ytofgclmibemniaa.treeSteps
open Go.ChangeShapes Go.WideShapes Go.ChangeAt Go.RowKit

/-- The law's head: parents that are too many, or no tree. -/
theorem walk_no (A : Option Addr) (cap n : Nat) (f : Nat → Int) (a b : Int) (w : World) (hm : n ≤ 9223372036854775807) (h : Arr w w.heap.size A n f) (ht : 100 < n ∨ ¬ IsTree n f) :
    Calls Try.prog 8 #[.slice A n cap, .int .i64 a, .int .i64 b] w fun e w' => e = .returned (.bool true) ∧ Below w.heap.size w w' := by
  rcases (show 100 < n ∨ (n ≤ 100 ∧ ¬ IsTree n f) by by_cases h : 100 < n; exact .inl h; exact .inr ⟨by omega, ht.resolve_left h⟩) with h1 | ⟨h1, h2⟩
  all_goals
    clear ht
    go_enter Try.func8, Try.ntmps8
    go_wp2_with fail
    refine (awake_any _).mono ?_
    rintro e w1 ⟨rfl, hb1⟩
    go_wp2_with (go_at_call 10; refine (check_bad A cap n _ f w1 (h.below hb1) hm h2).mono ?_; rintro e w2 ⟨rfl, rfl⟩)
    go_ret
    exact ⟨rfl, hb1⟩
/-- No such broker. -/
theorem walk_out (A : Option Addr) (cap n : Nat) (p : Nat → Nat) (a b : Int) (w : World) (ht : TreeAt w w.heap.size A n p) (h : (a < 0 ∨ (n : Int) ≤ a) ∨ (b < 0 ∨ (n : Int) ≤ b)) :
    Calls Try.prog 8 #[.slice A n cap, .int .i64 a, .int .i64 b] w fun e w' => e = .returned (.bool true) ∧ Below w.heap.size w w' := by
  have hn := ht.2.1
  have HT := Lib.hid ht
  rcases (show a < 0 ∨ (0 ≤ a ∧ b < 0) ∨ (0 ≤ a ∧ 0 ≤ b ∧ (n : Int) ≤ a) ∨ (0 ≤ a ∧ 0 ≤ b ∧ a < (n : Int) ∧ (n : Int) ≤ b) by omega) with h1 | ⟨h1, h2⟩ | ⟨h1, h2, h3⟩ | ⟨h1, h2, h3, h4⟩
  all_goals
    clear h ht
    go_enter Try.func8, Try.ntmps8
    go_wp2_with fail
    refine (awake_any _).mono ?_
    rintro e w1 ⟨rfl, hb1⟩
    go_wp2_with (go_at_call 10; refine (check_ok A cap n _ p w1 (HT.out.below hb1)).mono ?_; rintro e w2 ⟨rfl, rfl⟩)
    go_ret
    exact ⟨rfl, hb1⟩
theorem way_bound (p : Nat → Nat) (a b : Nat) : 1 ≤ (way p a b).length ∧ (way p a b).length ≤ a + b + 1 := by
  have h := way_length p a b
  have h1 := dep_le p a
  have h2 := dep_le p b
  obtain ⟨t, ht⟩ := way_head p a b
  rw [ht] at h ⊢
  simp only [List.length_cons] at h ⊢
  omega
set_option maxHeartbeats 2000000 in
theorem walk_yes (A : Option Addr) (cap n : Nat) (p : Nat → Nat) (a b : Nat) (w : World) (ht : TreeAt w w.heap.size A n p) (ha : a < n) (hb : b < n) :
    Calls Try.prog 8 #[.slice A n cap, .int .i64 a, .int .i64 b] w fun e w' => e = .returned (.bool true) ∧ Below w.heap.size w w' := by
  have hn := ht.2.1
  have hg := Lib.hid ht.2.2.1
  have HT := Lib.hid ht
  have hwb := way_bound p a b
  clear ht
  go_enter Try.func8, Try.ntmps8
  go_wp2_with fail
  refine (awake_any _).mono ?_
  rintro e w1 ⟨rfl, hb1⟩
  go_wp2_with fail
  refine (check_ok A cap n _ p w1 (HT.out.below hb1)).mono ?_
  rintro e w2 ⟨rfl, rfl⟩
  go_wp2_with fail
  refine (way_any A cap n p w1 ((HT.out.below hb1).more hb1.size) a b ha hb).mono ?_
  rintro e w3 ⟨A3, c3, rfl, ho3, hb3⟩
  have hb13 := hb1.trans (hb3.mono hb1.size)
  have HL : Hid ((way p a b).length = (way p a b).length) := rfl
  generalize hL : (way p a b).length = L at *
  have HLL := Lib.hid hL
  clear ho3 hL HL
  go_wp2_with fail
  go_loopw [10, 11] (fun at_ m_ wr => ∃ j m : Nat, at_ = .int .i64 j ∧ m_ = .int .i64 m ∧ j < n ∧ m + 1 ≤ L ∧ Hid ((way p j b).length + m = L) ∧ Below w.heap.size w wr) (fun _ m _ => 40 - (intOf m).toNat)
  case atStart => exact ⟨a, 0, rfl, rfl, ha, by omega, by have := HLL.out; exact (by omega : (way p a b).length + 0 = L), hb13⟩
  case round =>
    obtain ⟨j, m, rfl, rfl, hj, hm, HM, hbw⟩ := hrel
    by_cases hjb : j = b
    · have e1 : ((j : Int) != (b : Int)) = false := by simp [hjb]
      have e2 : ((j : Int) == (b : Int)) = true := by simp [hjb]
      have e3 : ((m : Int) == (L : Int) - 1) = true := by
        have := HM.out
        rw [hjb, way_same] at this
        rw [beq_iff_eq]
        simp only [List.length_singleton] at this
        omega
      clear hjb
      go_wp2_with fail
      go_ret
      exact ⟨rfl, hbw⟩
    · have e1 : ((j : Int) != (b : Int)) = true := by rw [bne_iff_ne]; omega
      have e4 : (m : Int) < 40 := by omega
      obtain ⟨c, hc, hcn, _⟩ := way_next p hg.out hj hb hjb
      obtain ⟨t, hct⟩ := way_head p c b
      have HW := Lib.hid (hc.trans (by rw [hct] : j :: way p c b = j :: c :: t))
      have hM2 : (way p c b).length + (m + 1) = L := by
        have := HM.out
        rw [hc, List.length_cons] at this
        omega
      have hcl : m + 1 + 1 ≤ L := by
        rw [hct, List.length_cons] at hM2
        omega
      have HM2 := Lib.hid hM2
      have HNE := Lib.hid hjb
      clear hc hct hM2 HM hjb
      go_wp2_with fail
      refine (step_any A cap n p wr ((HT.out.below hbw).more hbw.size) j b hj hb HNE.out c t HW.out).mono ?_
      rintro e w4 ⟨rfl, hb4⟩
      have hbw4 := hbw.trans (hb4.mono hbw.size)
      go_wp2_with fail
      go_roundw
      case rel => exact ⟨c, m + 1, rfl, by go_num, hcn, hcl, HM2, hbw4⟩
      case measure => simp [intOf]; omega
theorem walk (A : Option Addr) (cap n : Nat) (f : Nat → Int) (a b : Int) (w : World) (_ : n ≤ cap) (hm : cap ≤ 9223372036854775807) (h : Arr w w.heap.size A n f) (_ : (Lit.int .i64 a).wf = true) (_ : (Lit.int .i64 b).wf = true) :
    Calls Try.prog 8 #[.slice A n cap, .int .i64 a, .int .i64 b] w fun e w' => e = .returned (.bool true) ∧ Below w.heap.size w w' := by
  by_cases ht : IsTree n f
  · by_cases ho : (a < 0 ∨ (n : Int) ≤ a) ∨ (b < 0 ∨ (n : Int) ≤ b)
    · exact walk_out A cap n _ a b w (h.tree ht) ho
    · obtain ⟨i, rfl⟩ : ∃ i : Nat, a = i := ⟨a.toNat, by omega⟩
      obtain ⟨j, rfl⟩ : ∃ j : Nat, b = j := ⟨b.toNat, by omega⟩
      exact walk_yes A cap n _ i j w (h.tree ht) (by omega) (by omega)
  · exact walk_no A cap n f a b w (by omega) h (.inr ht)

theorem own : ownKnob Try.prog.godebug = none := by kernel_rfl
theorem laidOut : laidOutB Try.prog = true := by kernel_rfl
set_option maxRecDepth 100000 in
theorem lifted (os : Os) (started : os.Started) (H : Type) (enc : TypeId × Value → H) :
    ReturnsInHanded {} Try.checked os 8 .any (Rows.treeStepsSpec.pre6 enc Try.prog Try.f8 Rows.treeStepsRow.domain false) (Rows.treeStepsSpec.post enc Try.prog Try.f8 false true false false) := by
  refine returnsInHanded_of_change (C := Try.checked) own started (by kernel_rfl) Try.func8
    (ChangeSpec.witness6 (enc := enc) (C := Try.checked) false ⟨#[], #[.slice none 0 0, .int .i64 0, .int .i64 0], []⟩ 8 (by kernel_rfl) (by kernel_rfl) (by kernel_rfl) (by kernel_rfl)) ?_
  intro W base args ds gs before hval0 hW _ _
  have hval : ∀ (j : Nat) t v, Try.f8.params[j]? = some t → args[j]? = some v → Value.okWide Try.prog W .any base t v := hval0
  have hW' := hW
  obtain ⟨p, q, hA0, hV, rfl, _, _⟩ := hW
  have hA : DataW.TrodAll enc Try.prog W 0 (fun _ => true) true Try.f8.params.toList args.toList ds p := hA0
  rw [Try.params8] at hA hval
  obtain ⟨v0, vs0, d0, ds0, p0, q0, hargs, rfl, rfl, h0, r0⟩ := trodAll_cons hA
  obtain ⟨v1, vs1, d1, ds1, p1, q1, rfl, rfl, rfl, h1, r1⟩ := trodAll_cons r0
  obtain ⟨v2, vs2, d2, ds2, p2, q2, rfl, rfl, rfl, h2, r2⟩ := trodAll_cons r1
  obtain ⟨rfl, rfl, rfl⟩ := trodAll_nil r2
  obtain rfl : args = #[v0, v1, v2] := by cases args; simp_all
  obtain ⟨rfl, rfl⟩ := trodVars_none hV
  obtain ⟨a0, len0, cap0, rfl⟩ := okWide_slice Try.underlying23 (hval 0 23 v0 rfl rfl)
  have k0 := h0
  have lt0 : ∀ x ∈ p0, x.block < W.heap.size := by obtain ⟨m, hm⟩ := k0; exact DataW.trod_lt m _ _ _ hm
  obtain ⟨l0, hc0, hm0, hb0⟩ := open_arr Try.underlying23 Try.underlying3 (by kernel_rfl) h0
  obtain ⟨a1, rfl, rfl, rfl, w1⟩ := open_int Try.underlying3 (hval 1 3 v1 rfl rfl) h1
  obtain ⟨a2, rfl, rfl, rfl, w2⟩ := open_int Try.underlying3 (hval 2 3 v2 rfl rfl) h2
  clear hA0 hval0
  refine (walk a0 cap0 len0 l0 a1 a2 W hc0 hm0 hb0 w1 w2).mono fun e W' ⟨he, bel⟩ => ?_
  subst he
  exact ⟨_, rfl, _, _, _, [], _, [], hW', trodAll_mk1 (shut_bool Try.underlying4 _), (trodAll_cons_mk (Below.trod laidOut (by kernel_rfl) (of_decide_eq_true (by kernel_rfl)) k0 bel lt0) (trodAll_cons_mk (shut_int Try.underlying3 w1) (trodAll_cons_mk (shut_int Try.underlying3 w2) trodAll_mk0))), rfl, bel.frame _, fun h => by cases h⟩
theorem over : Rows.treeStepsRow.holds Try.pinned (OpenSpec.ofChange Rows.treeStepsSpec) :=
  OpenClaim.holds_of_wide 8 Try.f8 rfl rfl rfl rfl rfl rfl rfl ⟨rfl, rfl, rfl, rfl, rfl⟩ rfl rfl rfl rfl rfl (by kernel_rfl) Try.func8 (by kernel_rfl)
    (of_decide_eq_true (by kernel_rfl)) (by unfold Func.isWrapper; first | (rw [if_pos (by decide +kernel)]; kernel_rfl) | (rw [if_neg (by decide +kernel)]; exact ⟨rfl, rfl⟩))
    (fun os started H enc _ => lifted os started H enc)
theorem proved : Rows.TreeStepsSaid := over
end Go.Proofs.Ytofgclmibemniaa.treeSteps
