/- DiskCuts: for every two []byte and two ints the law returns true, and the bytes read behind the call as before. No conditions. -/
import Derived.Test.YtjbdnogonfnjkaaCuts
import Derived.Test.YtjbdnogonfnjkaaCuts2
namespace Go.Proofs.Ytjbdnogonfnjkaa.diskCuts
open Go.ChangeShapes Go.WideShapes Go.ChangeAt Go.RowKit

theorem walk_long (A : Option Addr) (c n0 : Nat) (B : Option Addr) (d m0 : Nat) (n keep : Int) (w : World) (h : 300 < n0 ∨ 300 < m0) :
    Calls Try.prog 9 #[.slice A n0 c, .slice B m0 d, .int .i64 n, .int .i64 keep] w fun e w' => e = .returned (.bool true) ∧ Below w.heap.size w w' := by
  have g : (decide ((300 : Int) < (n0 : Int)) || decide ((300 : Int) < (m0 : Int))) = true := by
    simp only [Bool.or_eq_true, decide_eq_true_eq]
    omega
  rcases (show 300 < n0 ∨ (n0 ≤ 300 ∧ 300 < m0) by omega) with h1 | ⟨h1, h2⟩
  all_goals
    clear h
    go_enter Try.func9, Try.ntmps9
    go_wp2_with fail
    refine (awake_any _).mono ?_
    rintro e w1 ⟨rfl, hb1⟩
    go_wp2_with fail
    go_ret
    exact ⟨rfl, hb1⟩
theorem walk (A : Option Addr) (c : Nat) (l : List UInt8) (B : Option Addr) (d : Nat) (m : List UInt8) (n keep : Int) (w : World) (hc : l.length ≤ c) (_ : c ≤ 9223372036854775807) (h : Bytes w w.heap.size A l) (_ : m.length ≤ d) (_ : d ≤ 9223372036854775807) (k : Bytes w w.heap.size B m) (_hn : (Lit.int .i64 n).wf = true) (hk : (Lit.int .i64 keep).wf = true) :
    Calls Try.prog 9 #[.slice A l.length c, .slice B m.length d, .int .i64 n, .int .i64 keep] w fun e w' => e = .returned (.bool true) ∧ Below w.heap.size w w' := by
  by_cases hl : 300 < l.length ∨ 300 < m.length
  · exact walk_long A c _ B d _ n keep w hl
  · by_cases hn : n < 0 ∨ (l.length : Int) < n
    · exact walk_bad A c l B d m n keep w h k (by omega) (by omega) hn
    · obtain ⟨j, rfl⟩ : ∃ j : Nat, n = j := ⟨n.toNat, by omega⟩
      exact walk_ok A c l B d m j keep w hc h k (by omega) (by omega) (by omega) (bounds_i64 hk)

theorem own : ownKnob Try.prog.godebug = none := by kernel_rfl
theorem laidOut : laidOutB Try.prog = true := by kernel_rfl
set_option maxRecDepth 100000 in
theorem lifted (os : Os) (started : os.Started) (H : Type) (enc : TypeId × Value → H) :
    ReturnsInHanded {} Try.checked os 9 .any (Rows.diskCutsSpec.pre6 enc Try.prog Try.f9 Rows.diskCutsRow.domain false) (Rows.diskCutsSpec.post enc Try.prog Try.f9 false true false false) := by
  refine returnsInHanded_of_change (C := Try.checked) own started (by kernel_rfl) Try.func9
    (ChangeSpec.witness6 (enc := enc) (C := Try.checked) false ⟨#[], #[.slice none 0 0, .slice none 0 0, .int .i64 0, .int .i64 0], []⟩ 8 (by kernel_rfl) (by kernel_rfl) (by kernel_rfl) (by kernel_rfl)) ?_
  intro W base args ds gs before hval0 hW _ _
  have hval : ∀ (j : Nat) t v, Try.f9.params[j]? = some t → args[j]? = some v → Value.okWide Try.prog W .any base t v := hval0
  have hW' := hW
  obtain ⟨p, q, hA0, hV, rfl, _, _⟩ := hW
  have hA : DataW.TrodAll enc Try.prog W 0 (fun _ => true) true Try.f9.params.toList args.toList ds p := hA0
  rw [Try.params9] at hA hval
  obtain ⟨v0, vs0, d0, ds0, p0, q0, hargs, rfl, rfl, h0, r0⟩ := trodAll_cons hA
  obtain ⟨v1, vs1, d1, ds1, p1, q1, rfl, rfl, rfl, h1, r1⟩ := trodAll_cons r0
  obtain ⟨v2, vs2, d2, ds2, p2, q2, rfl, rfl, rfl, h2, r2⟩ := trodAll_cons r1
  obtain ⟨v3, vs3, d3, ds3, p3, q3, rfl, rfl, rfl, h3, r3⟩ := trodAll_cons r2
  obtain ⟨rfl, rfl, rfl⟩ := trodAll_nil r3
  obtain rfl : args = #[v0, v1, v2, v3] := by cases args; simp_all
  obtain ⟨rfl, rfl⟩ := trodVars_none hV
  obtain ⟨a0, len0, cap0, rfl⟩ := okWide_slice Try.underlying23 (hval 0 23 v0 rfl rfl)
  have k0 := h0
  have lt0 : ∀ x ∈ p0, x.block < W.heap.size := by obtain ⟨m, hm⟩ := k0; exact DataW.trod_lt m _ _ _ hm
  obtain ⟨l0, hl0, hc0, hm0, hb0⟩ := open_bytes Try.underlying23 Try.underlying5 (by kernel_rfl) h0
  subst hl0
  obtain ⟨a1, len1, cap1, rfl⟩ := okWide_slice Try.underlying23 (hval 1 23 v1 rfl rfl)
  have k1 := h1
  have lt1 : ∀ x ∈ p1, x.block < W.heap.size := by obtain ⟨m, hm⟩ := k1; exact DataW.trod_lt m _ _ _ hm
  obtain ⟨l1, hl1, hc1, hm1, hb1⟩ := open_bytes Try.underlying23 Try.underlying5 (by kernel_rfl) h1
  subst hl1
  obtain ⟨a2, rfl, rfl, rfl, w2⟩ := open_int Try.underlying3 (hval 2 3 v2 rfl rfl) h2
  obtain ⟨a3, rfl, rfl, rfl, w3⟩ := open_int Try.underlying3 (hval 3 3 v3 rfl rfl) h3
  clear hA0 hval0
  refine (walk a0 cap0 l0 a1 cap1 l1 a2 a3 W hc0 hm0 hb0 hc1 hm1 hb1 w2 w3).mono fun e W' ⟨he, bel⟩ => ?_
  subst he
  exact ⟨_, rfl, _, _, _, [], _, [], hW', trodAll_mk1 (shut_bool Try.underlying4 _), (trodAll_cons_mk (Below.trod laidOut (by kernel_rfl) (of_decide_eq_true (by kernel_rfl)) k0 bel lt0) (trodAll_cons_mk (Below.trod laidOut (by kernel_rfl) (of_decide_eq_true (by kernel_rfl)) k1 bel lt1) (trodAll_cons_mk (shut_int Try.underlying3 w2) (trodAll_cons_mk (shut_int Try.underlying3 w3) trodAll_mk0)))), rfl, bel.frame _, fun h => by cases h⟩
theorem over : Rows.diskCutsRow.holds Try.pinned (OpenSpec.ofChange Rows.diskCutsSpec) :=
  OpenClaim.holds_of_wide 9 Try.f9 rfl rfl rfl rfl rfl rfl rfl ⟨rfl, rfl, rfl, rfl, rfl⟩ rfl rfl rfl rfl rfl (by kernel_rfl) Try.func9 (by kernel_rfl)
    (of_decide_eq_true (by kernel_rfl)) (by unfold Func.isWrapper; first | (rw [if_pos (by decide +kernel)]; kernel_rfl) | (rw [if_neg (by decide +kernel)]; exact ⟨rfl, rfl⟩))
    (fun os started H enc _ => lifted os started H enc)
theorem proved : Rows.DiskCutsSaid := over
end Go.Proofs.Ytjbdnogonfnjkaa.diskCuts
