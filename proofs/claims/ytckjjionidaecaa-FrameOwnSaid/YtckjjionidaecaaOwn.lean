/- FrameOwn: for every []byte the law returns true, and the bytes read behind the call as before. No conditions. -/
import Derived.Test.YtckjjionidaecaaAll
namespace Go.Proofs.Ytckjjionidaecaa.frameOwn
open Go.ChangeShapes Go.WideShapes Go.ChangeAt Go.RowKit

/-- A row that is not empty, laid open. -/
theorem own_some {w : World} {base e n : Nat} {v : Value} {xs : List Value} (h : w.ownsRow base e 1 v n xs) (hn : 0 < n) :
    ∃ g c, v = .slice (some ⟨g, 0, none⟩) n c ∧ base ≤ g ∧ g < w.heap.size ∧ n ≤ c ∧ (∀ (j : Nat) (u : Value), xs[j]? = some u → w.cell? ⟨g, j, none⟩ = some u) ∧ ∀ j, w.frozen? ⟨g, j, none⟩ = false := by
  rcases h.2 with ⟨_, h0⟩ | ⟨g, cap, cur, hv, hb, hh, hnc, hcm, hcs, htake⟩
  · omega
  · refine ⟨g, cap, hv, hb, (Array.getElem?_eq_some_iff.1 hh).1, hnc, fun j u hu => ?_, fun j => Blk.free (cs := cur) hh j⟩
    have := h.cells (g := g) (by rw [hv]; rfl) j u hu
    rwa [Addr.add_lit, Nat.zero_add] at this

theorem full_one (l : List UInt8) (h0 : 0 < l.length) (h1 : l.length ≤ 4000) : Fr.full (Fr.wrap l) = [l] := by
  have := Fr.full_wrap l [] h0 h1
  rwa [List.append_nil] at this

theorem scan_wrap (A : Option Addr) (c : Nat) (l : List UInt8) (w : World) (h : Bytes w w.heap.size A (Fr.wrap l)) (hc : 6 + l.length ≤ c) (h0 : 0 < l.length) (h1 : l.length ≤ 4000) :
    Calls Try.prog 12 #[.slice A (6 + l.length) c] w fun e w' => ∃ A' c', e = .returned (.tuple #[.slice A' 1 c', .int .i64 (6 + l.length)]) ∧ Texts w' w'.heap.size A' [l] ∧ Below w.heap.size w w' := by
  have hs := scan_texts A c (Fr.wrap l) w h (by rw [Fr.wrap_length]; exact hc) (by rw [Fr.wrap_length]; omega)
  rw [full_one l h0 h1, Fr.wrap_length] at hs
  exact hs

set_option maxRecDepth 100000 in
set_option maxHeartbeats 1000000 in
theorem walk (A : Option Addr) (c : Nat) (l : List UInt8) (w : World) (_hc : l.length ≤ c) (_hm : c ≤ 9223372036854775807) (h : Bytes w w.heap.size A l) :
    Calls Try.prog 8 #[.slice A l.length c] w fun e w' => e = .returned (.bool true) ∧ Below w.heap.size w w' := by
  by_cases h0 : l.length = 0
  · have g0 : ((l.length : Int) == 0) = true := by rw [beq_iff_eq]; omega
    clear h0
    go_enter Try.func8, Try.ntmps8
    go_wp2_with (go_at_call 9; refine (awake_any _).mono ?_; rintro e w1 ⟨rfl, hb1⟩)
    go_ret
    exact ⟨rfl, hb1⟩
  · have g0 : ((l.length : Int) == 0) = false := by rw [beq_eq_false_iff_ne]; omega
    by_cases h5 : 500 < l.length
    · clear h0
      go_enter Try.func8, Try.ntmps8
      go_wp2_with (go_at_call 9; refine (awake_any _).mono ?_; rintro e w1 ⟨rfl, hb1⟩)
      go_ret
      exact ⟨rfl, hb1⟩
    · have hp : 0 < l.length := by omega
      clear h0
      go_enter Try.func8, Try.ntmps8
      go_wp2_with fail
      refine (awake_any _).mono ?_
      rintro e w1 ⟨rfl, hb1⟩
      go_wp2_with fail
      refine (wrap_any A c l w1 ((h.below hb1).more hb1.size) hp (by omega)).mono ?_
      rintro e w2 ⟨A2, c2, rfl, ho2, hb2⟩
      have hb2' := hb1.trans (hb2.mono hb1.size)
      have hy2 : Bytes w2 w2.heap.size A2 (Fr.wrap l) := Lies.of_own ho2
      have hsc := scan_any A2 c2 (Fr.wrap l) w2 hy2 (by rw [Fr.wrap_length]; exact own_cap ho2) (by rw [Fr.wrap_length]; omega)
      rw [full_one l hp (by omega), Fr.wrap_length] at hsc
      go_wp2_with fail
      refine hsc.mono ?_
      rintro e w3 ⟨v, rfl, ⟨Av, cv0, xs, _, ho3, hl3, hx3⟩, hb3⟩
      clear hsc
      obtain ⟨u, rfl⟩ : ∃ u, xs = [u] := by
        match xs, hl3 with
        | [u], _ => exact ⟨u, rfl⟩
      have hu := hx3 0 u l rfl rfl
      obtain ⟨go_, cv, rfl, hgo, hgol, hcv, hco, hfo⟩ := own_some ho3 (by simp)
      obtain ⟨gi, ci, rfl, hgi, hgil, hci, hcc, hfi⟩ := own_some hu hp
      have c0 := hco 0 _ rfl
      obtain ⟨x, hx0⟩ : ∃ x : UInt8, x = l[0] := ⟨_, rfl⟩
      have d0 : w3.cell? ⟨gi, 0, none⟩ = some (.int .u8 (x.toNat : Int)) := by rw [hx0]; exact hcc 0 _ (bytesV_get l hp)
      have f0 := hfi 0
      have g1 : ((6 : Int) + l.length != 6 + l.length) = false := by simp
      have hlx : (x.toNat : Int) < 256 := by have := x.toNat_lt; omega
      have hne : gi ≠ go_ := by
        intro he
        have h1 := hco 0 _ rfl
        have h2 := hcc 0 _ (bytesV_get l hp)
        rw [he, h1] at h2
        cases h2
      clear hco hcc hfo hfi hx0
      go_wp2_with fail
      go_region
      all_goals go_wp2_with fail
      have hb4 : Below w2.heap.size w2 (w3.setCell ⟨gi, 0, none⟩ (.int .u8 (bits .xor .u8 (x.toNat : Int) 1))).drew := (hb3.setCell (p := ⟨gi, 0, none⟩) (by show w2.heap.size ≤ gi; omega) _).drew
      refine (scan_wrap A2 c2 l _ ((hy2.below hb4).more hb4.size) (own_cap ho2) hp (by omega)).mono ?_
      rintro e w5 ⟨A5, c5, rfl, ht5, hb5⟩
      have hb5' := hb2'.trans ((hb4.mono hb2'.size).trans (hb5.mono (Nat.le_trans hb2'.size hb4.size)))
      obtain ⟨b6, o6, A6, c6, rfl, _, e6, hy6⟩ := ht5.at_ (k := 0) (by simp)
      have e6' : w5.cell? ⟨b6, o6, none⟩ = some (.slice A6 l.length c6) := e6
      have hy6' : Bytes w5 w5.heap.size A6 l := hy6
      have t1 := fun j => run_text (P := Try.prog) (w5.drewN j) 23 9 5 (hy6'.drewN j) Try.underlying23 Try.underlying5 Try.underlying9 l.length c6 rfl
      have t2 := fun j => run_text (P := Try.prog) (w5.drewN j) 23 9 5 ((h.below hb5').drewN j) Try.underlying23 Try.underlying5 Try.underlying9 l.length c rfl
      clear e6 hy6 hb4 hb3 ho2 hu hx3 hl3 hy2 ho3 d0 c0 f0
      go_wp2_with fail
      go_quiet (fail)
      go_wp2
      go_ret
      exact ⟨rfl, below_draws hb5'⟩

theorem own : ownKnob Try.prog.godebug = none := by kernel_rfl
theorem laidOut : laidOutB Try.prog = true := by kernel_rfl
set_option maxRecDepth 100000 in
theorem lifted (os : Os) (started : os.Started) (H : Type) (enc : TypeId × Value → H) :
    ReturnsInHanded {} Try.checked os 8 .any (Rows.frameOwnSpec.pre6 enc Try.prog Try.f8 Rows.frameOwnRow.domain false) (Rows.frameOwnSpec.post enc Try.prog Try.f8 false true false false) := by
  refine returnsInHanded_of_change (C := Try.checked) own started (by kernel_rfl) Try.func8
    (ChangeSpec.witness6 (enc := enc) (C := Try.checked) false ⟨#[], #[.slice none 0 0], []⟩ 8 (by kernel_rfl) (by kernel_rfl) (by kernel_rfl) (by kernel_rfl)) ?_
  intro W base args ds gs before hval0 hW _ _
  have hval : ∀ (j : Nat) t v, Try.f8.params[j]? = some t → args[j]? = some v → Value.okWide Try.prog W .any base t v := hval0
  have hW' := hW
  obtain ⟨p, q, hA0, hV, rfl, _, _⟩ := hW
  have hA : DataW.TrodAll enc Try.prog W 0 (fun _ => true) true Try.f8.params.toList args.toList ds p := hA0
  rw [Try.params8] at hA hval
  obtain ⟨v0, vs0, d0, ds0, p0, q0, hargs, rfl, rfl, h0, r0⟩ := trodAll_cons hA
  obtain ⟨rfl, rfl, rfl⟩ := trodAll_nil r0
  obtain rfl : args = #[v0] := by cases args; simp_all
  obtain ⟨rfl, rfl⟩ := trodVars_none hV
  obtain ⟨a0, len0, cap0, rfl⟩ := okWide_slice Try.underlying23 (hval 0 23 v0 rfl rfl)
  have k0 := h0
  have lt0 : ∀ x ∈ p0, x.block < W.heap.size := by obtain ⟨m, hm⟩ := k0; exact DataW.trod_lt m _ _ _ hm
  obtain ⟨l0, hl0, hc0, hm0, hb0⟩ := open_bytes Try.underlying23 Try.underlying5 (by kernel_rfl) h0
  subst hl0
  clear hA0 hval0
  refine (walk a0 cap0 l0 W hc0 hm0 hb0).mono fun e W' ⟨he, bel⟩ => ?_
  subst he
  exact ⟨_, rfl, _, _, _, [], _, [], hW', trodAll_mk1 (shut_bool Try.underlying4 _), (trodAll_cons_mk (Below.trod laidOut (by kernel_rfl) (of_decide_eq_true (by kernel_rfl)) k0 bel lt0) trodAll_mk0), rfl, bel.frame _, fun h => by cases h⟩
theorem over : Rows.frameOwnRow.holds Try.pinned (OpenSpec.ofChange Rows.frameOwnSpec) :=
  OpenClaim.holds_of_wide 8 Try.f8 rfl rfl rfl rfl rfl rfl rfl ⟨rfl, rfl, rfl, rfl, rfl⟩ rfl rfl rfl rfl rfl (by kernel_rfl) Try.func8 (by kernel_rfl)
    (of_decide_eq_true (by kernel_rfl)) (by unfold Func.isWrapper; first | (rw [if_pos (by decide +kernel)]; kernel_rfl) | (rw [if_neg (by decide +kernel)]; exact ⟨rfl, rfl⟩))
    (fun os started H enc _ => lifted os started H enc)
theorem proved : Rows.FrameOwnSaid := over
end Go.Proofs.Ytckjjionidaecaa.frameOwn
