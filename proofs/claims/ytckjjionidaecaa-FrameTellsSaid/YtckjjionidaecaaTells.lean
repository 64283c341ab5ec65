/- FrameTells: for every []byte the law returns true, and the bytes read behind the call as before. No conditions. -/
import Derived.Test.YtckjjionidaecaaAll
namespace Go.Proofs.Ytckjjionidaecaa.frameTells
open Go.ChangeShapes Go.WideShapes Go.ChangeAt Go.RowKit

set_option maxHeartbeats 1000000 in
theorem walk (A : Option Addr) (c : Nat) (l : List UInt8) (w : World) (hc : l.length ≤ c) (_hm : c ≤ 9223372036854775807) (h : Bytes w w.heap.size A l) :
    Calls Try.prog 4 #[.slice A l.length c] w fun e w' => e = .returned (.bool true) ∧ Below w.heap.size w w' := by
  by_cases h5 : 5000 < l.length
  · go_enter Try.func4, Try.ntmps4
    go_wp2_with (go_at_call 9; refine (awake_any _).mono ?_; rintro e w1 ⟨rfl, hb1⟩)
    go_ret
    exact ⟨rfl, hb1⟩
  · go_enter Try.func4, Try.ntmps4
    go_wp2_with fail
    refine (awake_any _).mono ?_
    rintro e w1 ⟨rfl, hb1⟩
    go_wp2_with fail
    refine (wrap_all A c l w1 ((h.below hb1).more hb1.size) (by omega)).mono ?_
    rintro e w2 ⟨Ax, cx, rfl, hx, _, hb2⟩
    have hb2' := hb1.trans (hb2.mono hb1.size)
    go_wp2_with fail
    refine (refwrap_all A c l w2 ((h.below hb2').more hb2'.size) (by omega)).mono ?_
    rintro e w3 ⟨Ay, cy, rfl, hy, hb3⟩
    have hb3' := hb2'.trans (hb3.mono hb2'.size)
    go_wp2_with fail
    refine (scan_texts A c l w3 ((h.below hb3').more hb3'.size) hc (by omega)).mono ?_
    rintro e w4 ⟨Al, cl, rfl, hl, hb4⟩
    have hb4' := hb3'.trans (hb4.mono hb3'.size)
    go_wp2_with fail
    refine (refscan_texts A c l w4 ((h.below hb4').more hb4'.size) hc (by omega)).mono ?_
    rintro e w5 ⟨Am, cm, rfl, hm5, hb5⟩
    have hb5' := hb4'.trans (hb5.mono hb4'.size)
    go_wp2_with fail
    refine (same_any Al Am cl cm w5.heap.size _ _ w5 ((hl.below hb5).more hb5.size) hm5 (by have := full_length l; omega)).mono ?_
    rintro e w6 ⟨rfl, n, rfl⟩
    have hx5 : Bytes w5 w5.heap.size Ax (wrapped l) := (((hx.below hb3).more hb3.size).below (hb4.trans (hb5.mono hb4.size))).more (Nat.le_trans hb4.size hb5.size)
    have hy5 : Bytes w5 w5.heap.size Ay (wrapped l) := (hy.below (hb4.trans (hb5.mono hb4.size))).more (Nat.le_trans hb4.size hb5.size)
    have t1 := run_text (P := Try.prog) (w5.drewN n) 23 9 5 (hx5.drewN n) Try.underlying23 Try.underlying5 Try.underlying9 (wrapped l).length cx rfl
    have t2 := run_text (P := Try.prog) (w5.drewN n) 23 9 5 (hy5.drewN n) Try.underlying23 Try.underlying5 Try.underlying9 (wrapped l).length cy rfl
    go_wp2_with (first
      | (go_at_call 15; refine (sum_any A c w.heap.size l _ ((h.below hb5').drewN n) (by omega)).mono ?_; rintro e w' ⟨rfl, rfl⟩)
      | (go_at_call 16; refine (refsum_any A c w.heap.size l _ ((h.below hb5').drewN n) (by omega)).mono ?_; rintro e w' ⟨rfl, rfl⟩))
    go_ret
    exact ⟨rfl, below_draws hb5'⟩

theorem own : ownKnob Try.prog.godebug = none := by kernel_rfl
theorem laidOut : laidOutB Try.prog = true := by kernel_rfl
set_option maxRecDepth 100000 in
theorem lifted (os : Os) (started : os.Started) (H : Type) (enc : TypeId × Value → H) :
    ReturnsInHanded {} Try.checked os 4 .any (Rows.frameTellsSpec.pre6 enc Try.prog Try.f4 Rows.frameTellsRow.domain false) (Rows.frameTellsSpec.post enc Try.prog Try.f4 false true false false) := by
  refine returnsInHanded_of_change (C := Try.checked) own started (by kernel_rfl) Try.func4
    (ChangeSpec.witness6 (enc := enc) (C := Try.checked) false ⟨#[], #[.slice none 0 0], []⟩ 8 (by kernel_rfl) (by kernel_rfl) (by kernel_rfl) (by kernel_rfl)) ?_
  intro W base args ds gs before hval0 hW _ _
  have hval : ∀ (j : Nat) t v, Try.f4.params[j]? = some t → args[j]? = some v → Value.okWide Try.prog W .any base t v := hval0
  have hW' := hW
  obtain ⟨p, q, hA0, hV, rfl, _, _⟩ := hW
  have hA : DataW.TrodAll enc Try.prog W 0 (fun _ => true) true Try.f4.params.toList args.toList ds p := hA0
  rw [Try.params4] at hA hval
  obtain ⟨v0, vs0, d0, ds0, p0, q0, hargs, rfl, rfl, h0, r0⟩ := trodAll_cons hA
  obtain ⟨rfl, rfl, rfl⟩ := trodAll_nil r0
  obtain rfl : args = #[v0] := by cases args; simp_all
  obtain ⟨rfl, rfl⟩ := trodVars_none hV
  obtain ⟨a0, len0, cap0, rfl⟩ := okWide_slice Try.underlying23 (hval 0 23 v0 rfl rfl)
  have k0 := h0
  have lt0 : ∀ x ∈ p0, x.block < W.heap.size := by obtain ⟨m, hm⟩ := k0; exact DataW.trod_lt m _ _ _ hm
  obtain ⟨l0, hl0, hc0, hm0, hb0⟩ := open_bytes Try.underlying23 Try.underlying5 (by kernel_rfl) h0
  subst hl0
  clear hA0 hval0
  refine (walk a0 cap0 l0 W hc0 hm0 hb0).mono fun e W' ⟨he, bel⟩ => ?_
  subst he
  exact ⟨_, rfl, _, _, _, [], _, [], hW', trodAll_mk1 (shut_bool Try.underlying4 _), (trodAll_cons_mk (Below.trod laidOut (by kernel_rfl) (of_decide_eq_true (by kernel_rfl)) k0 bel lt0) trodAll_mk0), rfl, bel.frame _, fun h => by cases h⟩
theorem over : Rows.frameTellsRow.holds Try.pinned (OpenSpec.ofChange Rows.frameTellsSpec) :=
  OpenClaim.holds_of_wide 4 Try.f4 rfl rfl rfl rfl rfl rfl rfl ⟨rfl, rfl, rfl, rfl, rfl⟩ rfl rfl rfl rfl rfl (by kernel_rfl) Try.func4 (by kernel_rfl)
    (of_decide_eq_true (by kernel_rfl)) (by unfold Func.isWrapper; first | (rw [if_pos (by decide +kernel)]; kernel_rfl) | (rw [if_neg (by decide +kernel)]; exact ⟨rfl, rfl⟩))
    (fun os started H enc _ => lifted os started H enc)
theorem proved : Rows.FrameTellsSaid := over
end Go.Proofs.Ytckjjionidaecaa.frameTells
