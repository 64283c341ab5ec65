/- DiskRoom: for every uint16 and script the law returns true, and the script reads behind the call as before. No conditions. -/
import Derived.Test.YtjbdnogonfnjkaaSteps
namespace Go.Proofs.Ytjbdnogonfnjkaa.diskRoom
open Go.ChangeShapes Go.WideShapes Go.ChangeAt Go.RowKit

set_option maxRecDepth 100000 in
set_option maxHeartbeats 8000000 in
theorem walk (room : Nat) (A : Option Addr) (c len : Nat) (cs : Nat → Elem) (w : World) (_hr : room ≤ 65535) (_hc : len ≤ c) (_hm : c ≤ 9223372036854775807) (h : ScriptAt w w.heap.size A len cs) :
    Calls Try.prog 7 #[.int .u16 room, .slice A len c] w fun e w' => e = .returned (.bool true) ∧ Below w.heap.size w w' := by
  go_enter Try.func7, Try.ntmps7
  go_wp2_with fail
  refine (awake_any _).mono ?_
  rintro e w1 ⟨rfl, hb1⟩
  go_wp2_with fail
  refine (new_disk room w1 (by omega)).mono ?_
  rintro e w2 ⟨rfl, hd2, hb2⟩
  have hs1 := hb1.size
  go_wp2_with fail
  go_loopw [8] (fun i wr => ∃ (k : Nat) (r : Option Nat) (l : List UInt8) (last : Nat), k ≤ len ∧ k ≤ 60 ∧ i = .int .i64 k ∧ Disk wr w1.heap.size w1.heap.size r l last room ∧ Below w1.heap.size w1 wr) (fun i _ => len - (intOf i).toNat)
  case atStart => exact ⟨0, _, _, _, by omega, by omega, rfl, hd2, hb2⟩
  case round =>
    obtain ⟨k, r, l, last, hkl, hk6, rfl, hd, hb⟩ := hrel
    by_cases hgo : k < 60 ∧ k < len
    · obtain ⟨hk60, hlt⟩ := hgo
      rcases h with h0 | ⟨g, off, rfl, hg, hE⟩
      · omega
      have hbw := hb1.trans (hb.mono hs1)
      obtain ⟨e0, e1, e2, ey, ec, em, en⟩ := (hE k hlt).below hg hbw
      obtain ⟨x, hx⟩ : ∃ x, x = cs k := ⟨_, rfl⟩
      rw [← hx] at e0 e1 e2 ey ec em en
      clear hE hx
      have hle := hd.le
      go_wp2_with fail
      have hdb := hd.below ((Below.refl _ _).alloc (Nat.le_refl _) (.cells #[.int .i64 x.kd, .int .i64 x.n, .slice x.A x.b.length x.c] 36))
      refine (read_any _ _ _ _ _ l _ hdb).mono ?_
      rintro e w3 ⟨A3, c3, rfl, ho3, hb3⟩
      have hx3 := (Blk.made wr 36 #[.int .i64 x.kd, .int .i64 x.n, .slice x.A x.b.length x.c]).below hb3 (by simp)
      have d0 := hx3.cell 0
      have d1 := hx3.cell 1
      have d2 := hx3.cell 2
      simp at d0 d1 d2
      have t1 := run_text (P := Try.prog) w3 23 9 5 (Lies.of_own ho3) Try.underlying23 Try.underlying5 Try.underlying9 l.length c3 rfl
      have hd3 := hdb.below hb3
      have hbb := hb.alloc hb.size (.cells #[.int .i64 x.kd, .int .i64 x.n, .slice x.A x.b.length x.c] 36)
      have hb03 := hbb.trans (hb3.mono hbb.size)
      have hbw3 := hb1.trans (hb03.mono hs1)
      have ey3 := ((ey.below ((Below.refl _ wr).alloc hbw.size (.cells #[.int .i64 x.kd, .int .i64 x.n, .slice x.A x.b.length x.c] 36))).below (hb3.mono (Nat.le_trans hbw.size (by simp))))
      have hs3 := hbw3.size
      go_wp2_with (first
            | (go_at_call 12; refine (append_step w1 _ _ _ _ _ _ hd3 hb03 _ _ _ _ ey3 (by omega)).mono ?_; rintro e w' ⟨f, r', l', rfl, hf, hd', hb'⟩)
            | (go_at_call 17; refine (sync_far w1 _ _ _ _ _ _ hd3 hb03).mono ?_; rintro e w' ⟨rfl, hd', hb'⟩)
            | (go_at_call 18; refine (cut_step w1 _ _ _ _ _ _ hd3 hb03 _).mono ?_; rintro e w' ⟨f, l', last', rfl, hf, hd', hb'⟩)
            | (go_at_call 19; refine (swap_step w1 _ _ _ _ _ _ hd3 hb03 _ _ _ _ hs3 ey3).mono ?_; rintro e w' ⟨f, r', l', last', rfl, hf, hd', hb'⟩))
      all_goals try (rcases hf with rfl | ⟨rfl, rfl⟩)
      all_goals first | have hd5 := hd' | have hd5 := hd3
      all_goals first | have hb5 := hb' | have hb5 := hb03
      all_goals
        have hle5 := hd5.le
        refine (read_any _ _ _ _ _ _ _ hd5).mono ?_
        rintro e w4 ⟨A4, c4, rfl, ho4, hb4⟩
        have t4 := run_text (P := Try.prog) w4 23 9 5 (Lies.of_own ho4) Try.underlying23 Try.underlying5 Try.underlying9 _ c4 rfl
        have hd6 := hd5.below hb4
        have hb6 := hb5.trans (hb4.mono hb5.size)
        clear t1
        go_wp2_with fail
      all_goals go_roundw
      all_goals first
        | (case measure => simp [intOf]; omega)
        | (case rel => exact ⟨k + 1, _, _, _, by omega, by omega, by go_num, hd6, hb6⟩)
        | skip
    · rcases (show ¬ k < len ∨ (k < len ∧ ¬ k < 60) by omega) with h1 | ⟨h1, h2⟩
      all_goals
        go_wp2_with fail
        go_ret
        exact ⟨rfl, hb1.trans (hb.mono hs1)⟩

theorem walkI (a : Int) (A : Option Addr) (c len : Nat) (cs : Nat → Elem) (w : World) (hr : (Lit.int .u16 a).wf = true) (hc : len ≤ c) (hm : c ≤ 9223372036854775807) (h : ScriptAt w w.heap.size A len cs) :
    Calls Try.prog 7 #[.int .u16 a, .slice A len c] w fun e w' => e = .returned (.bool true) ∧ Below w.heap.size w w' := by
  have hb := bounds_u16 hr
  obtain ⟨n, rfl⟩ : ∃ n : Nat, a = n := ⟨a.toNat, by omega⟩
  exact walk n A c len cs w (by omega) hc hm h

theorem own : ownKnob Try.prog.godebug = none := by kernel_rfl
theorem laidOut : laidOutB Try.prog = true := by kernel_rfl
set_option maxRecDepth 100000 in
theorem lifted (os : Os) (started : os.Started) (H : Type) (enc : TypeId × Value → H) :
    ReturnsInHanded {} Try.checked os 7 .any (Rows.diskRoomSpec.pre6 enc Try.prog Try.f7 Rows.diskRoomRow.domain false) (Rows.diskRoomSpec.post enc Try.prog Try.f7 false true false false) := by
  refine returnsInHanded_of_change (C := Try.checked) own started (by kernel_rfl) Try.func7
    (ChangeSpec.witness6 (enc := enc) (C := Try.checked) false ⟨#[], #[.int .u16 0, .slice none 0 0], []⟩ 8 (by kernel_rfl) (by kernel_rfl) (by kernel_rfl) (by kernel_rfl)) ?_
  intro W base args ds gs before hval0 hW _ _
  have hval : ∀ (j : Nat) t v, Try.f7.params[j]? = some t → args[j]? = some v → Value.okWide Try.prog W .any base t v := hval0
  have hW' := hW
  obtain ⟨p, q, hA0, hV, rfl, _, _⟩ := hW
  have hA : DataW.TrodAll enc Try.prog W 0 (fun _ => true) true Try.f7.params.toList args.toList ds p := hA0
  rw [Try.params7] at hA hval
  obtain ⟨v0, vs0, d0, ds0, p0, q0, hargs, rfl, rfl, h0, r0⟩ := trodAll_cons hA
  obtain ⟨v1, vs1, d1, ds1, p1, q1, rfl, rfl, rfl, h1, r1⟩ := trodAll_cons r0
  obtain ⟨rfl, rfl, rfl⟩ := trodAll_nil r1
  obtain rfl : args = #[v0, v1] := by cases args; simp_all
  obtain ⟨rfl, rfl⟩ := trodVars_none hV
  obtain ⟨a0, rfl, rfl, rfl, w0⟩ := open_int Try.underlying46 (hval 0 46 v0 rfl rfl) h0
  obtain ⟨a1, len1, cap1, rfl⟩ := okWide_slice Try.underlying31 (hval 1 31 v1 rfl rfl)
  have k1 := h1
  have lt1 : ∀ x ∈ p1, x.block < W.heap.size := by obtain ⟨m, hm⟩ := k1; exact DataW.trod_lt m _ _ _ hm
  obtain ⟨l1, hc1, hm1, hb1⟩ := open_script Try.underlying31 Try.underlying36 (by kernel_rfl) rfl rfl rfl (by kernel_rfl) (by kernel_rfl) (by kernel_rfl) Try.underlying3 Try.underlying3 Try.underlying23 Try.underlying5 (by kernel_rfl) h1
  clear hA0 hval0
  refine (walkI a0 a1 cap1 len1 l1 W w0 hc1 hm1 hb1).mono fun e W' ⟨he, bel⟩ => ?_
  subst he
  exact ⟨_, rfl, _, _, _, [], _, [], hW', trodAll_mk1 (shut_bool Try.underlying4 _), (trodAll_cons_mk (shut_int Try.underlying46 w0) (trodAll_cons_mk (Below.trod laidOut (by kernel_rfl) (of_decide_eq_true (by kernel_rfl)) k1 bel lt1) trodAll_mk0)), rfl, bel.frame _, fun h => by cases h⟩
theorem over : Rows.diskRoomRow.holds Try.pinned (OpenSpec.ofChange Rows.diskRoomSpec) :=
  OpenClaim.holds_of_wide 7 Try.f7 rfl rfl rfl rfl rfl rfl rfl ⟨rfl, rfl, rfl, rfl, rfl⟩ rfl rfl rfl rfl rfl (by kernel_rfl) Try.func7 (by kernel_rfl)
    (of_decide_eq_true (by kernel_rfl)) (by unfold Func.isWrapper; first | (rw [if_pos (by decide +kernel)]; kernel_rfl) | (rw [if_neg (by decide +kernel)]; exact ⟨rfl, rfl⟩))
    (fun os started H enc _ => lifted os started H enc)
theorem proved : Rows.DiskRoomSaid := over
end Go.Proofs.Ytjbdnogonfnjkaa.diskRoom
