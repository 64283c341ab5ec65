/- FrameSplit: for every [][]byte and every []byte the law returns true, and the arguments read behind the call as before. No conditions. -/
import Derived.Test.YtckjjionidaecaaKeep
namespace Go.Proofs.Ytckjjionidaecaa.frameSplit
open Go.ChangeShapes Go.WideShapes Go.ChangeAt Go.RowKit

set_option maxRecDepth 100000 in
set_option maxHeartbeats 2000000 in
theorem walk (A : Option Addr) (c : Nat) (ls : List (List UInt8)) (B : Option Addr) (d : Nat) (r : List UInt8) (w : World) (_hc : ls.length ≤ c) (_hm : c ≤ 9223372036854775807) (ht : Texts w w.heap.size A ls) (hx : ∀ x ∈ ls, x.length ≤ 9223372036854775807)
    (hd : r.length ≤ d) (_hn : d ≤ 9223372036854775807) (hr : Bytes w w.heap.size B r) :
    Calls Try.prog 7 #[.slice A ls.length c, .slice B r.length d] w fun e w' => e = .returned (.bool true) ∧ Below w.heap.size w w' := by
  obtain ⟨i0, hi0, hz0, hz1, hz2⟩ := info_parts Try.info5
  obtain ⟨j0, hj0, hy0, hy1, hy2⟩ := info_parts Try.info23
  by_cases h1 : 1000 < r.length
  · go_enter Try.func7, Try.ntmps7
    go_wp2_with (go_at_call 9; refine (awake_any _).mono ?_; rintro e w1 ⟨rfl, hb1⟩)
    go_ret
    exact ⟨rfl, hb1⟩
  · go_enter Try.func7, Try.ntmps7
    go_wp2_with fail
    refine (awake_any _).mono ?_
    rintro e w1 ⟨rfl, hb1⟩
    go_wp2_with fail
    go_loopw [6, 7, 8] (fun va vw i wr => ∃ k : Nat, k ≤ ls.length ∧ k ≤ 5 ∧ i = .int .i64 k ∧ AllIn wr w.heap.size va (keep 500 (ls.take k)) ∧ TextIn wr w.heap.size w.heap.size vw (keep 500 (ls.take k)) ∧ Below w.heap.size w wr)
      (fun _ _ i _ => 5 - (intOf i).toNat)
    case atStart => exact ⟨0, by omega, by omega, rfl, AllIn.none_ _ _, TextIn.none_ _ _ _, hb1⟩
    case round =>
      obtain ⟨k, hk, hk5, rfl, ⟨Aa, ca, rfl, ha⟩, ⟨Aw, cw, xs, rfl, hw, hv⟩, hbw⟩ := hrel
      by_cases hlt : k < ls.length ∧ k < 5
      · obtain ⟨hkl, hkf⟩ := hlt
        have htr := ht.below hbw
        obtain ⟨b8, o8, Ap, cp, rfl, hb8, e8, hy8⟩ := htr.at_ hkl
        obtain ⟨p, hp⟩ : ∃ p, p = ls[k] := ⟨_, rfl⟩
        have hxp : p.length ≤ 9223372036854775807 := by rw [hp]; exact hx _ (List.getElem_mem hkl)
        rw [← hp] at e8 hy8
        have HP := Lib.hid hp
        have hkeep : ∀ q, q = ls[k] → (q.length = 0 ∨ 500 < q.length → keep 500 (ls.take (k + 1)) = keep 500 (ls.take k)) ∧ (0 < q.length → q.length ≤ 500 → keep 500 (ls.take (k + 1)) = keep 500 (ls.take k) ++ [q]) :=
          fun q hq => ⟨fun h => keep_no hkl (by rw [← hq]; exact h), fun h0 h1 => by rw [hq]; exact keep_yes hkl (by rw [← hq]; exact h0) (by rw [← hq]; exact h1)⟩
        have hkp := hkeep p hp
        have hub := keep_used 500 ls k
        have hlb := keep_len 500 ls k
        clear hp hkeep
        obtain ⟨ks, hks⟩ : ∃ ks, ks = keep 500 (ls.take k) := ⟨_, rfl⟩
        rw [← hks] at hkp ha hw hv hub hlb ⊢
        have HK := Lib.hid hkp
        have HS := Lib.hid hks
        clear hkp hks
        have hub2 : Fr.used ks ≤ 2530 := by omega
        by_cases h0 : p.length = 0
        · have g0 : ((p.length : Int) == 0) = true := by rw [beq_iff_eq]; omega
          have HN := Lib.hid (HK.out.1 (.inl h0))
          clear h0
          go_wp2
          go_roundw
          case rel => exact ⟨k + 1, by omega, by omega, by go_num, by rw [HN.out]; exact ⟨_, _, rfl, ha⟩, by rw [HN.out]; exact ⟨_, _, xs, rfl, hw, hv⟩, hbw⟩
          case measure => simp [intOf]; omega
        · have g0 : ((p.length : Int) == 0) = false := by rw [beq_eq_false_iff_ne]; omega
          by_cases h5 : 500 < p.length
          · have HN := Lib.hid (HK.out.1 (.inr h5))
            clear h0
            go_wp2
            go_roundw
            case rel => exact ⟨k + 1, by omega, by omega, by go_num, by rw [HN.out]; exact ⟨_, _, rfl, ha⟩, by rw [HN.out]; exact ⟨_, _, xs, rfl, hw, hv⟩, hbw⟩
            case measure => simp [intOf]; omega
          · have HN := Lib.hid (HK.out.2 (by omega) (by omega))
            have hp0 : 0 < p.length := by omega
            have g1 : ((6 : Int) + p.length != 6 + p.length) = false := by simp
            clear h0
            go_wp2_with fail
            refine (wrap_any Ap cp p wr (hy8.more hbw.size) hp0 (by omega)).mono ?_
            rintro e w1 ⟨A2, c2, rfl, ho2, hb2⟩
            have e9 : w1.cell? ⟨b8, o8 + k, none⟩ = some (.slice Ap p.length cp) := (hb2.cell (p := ⟨b8, o8 + k, none⟩) (by show b8 < wr.heap.size; have := hbw.size; omega)).trans e8
            have ha1 := own_below ha hb2
            have hw1 := own_below hw hb2
            have hs1 : w.heap.size ≤ w1.heap.size := Nat.le_trans hbw.size hb2.size
            go_wp2_with (first
              | (at_builtin; refine wpList_append_from _ rfl (.tmp 66) (.tmp 67) 23 rfl w.heap.size 5 i0 _ 1 Try.underlying23 hi0 hz0 hz1 hz2 rfl _ _ _ rfl ha1 w1.heap.size A2 (6 + p.length) c2 (bytesV (Fr.wrap p)) rfl (by rw [bytesV_length, Fr.wrap_length]) (Lies.of_own ho2) (bytesV_one _) (by unfold maxLen; omega) (by omega) hs1 ?_; intro A3 c3 w2 ha2 hg2 hat2; have hb3 := below_append ha1 hg2 (Nat.le_refl _) hs1; have hw2 := hw1.kept hg2 (own_ne hw1 ha1 (by decide)); have e10 : w2.cell? ⟨b8, o8 + k, none⟩ = some (.slice Ap p.length cp) := (hb3.cell (p := ⟨b8, o8 + k, none⟩) hb8).trans e9; have hs2 : w.heap.size ≤ w2.heap.size := Nat.le_trans hs1 hb3.size)
              | (at_builtin; refine wpList_append_from _ rfl (.tmp 69) (.tmp 74) 27 rfl w.heap.size 23 j0 _ 24 Try.underlying27 hj0 hy0 hy1 hy2 rfl _ ks.length xs rfl (hw2.alloc _) (w2.heap.size + 1) (some ⟨w2.heap.size, 0, none⟩) 1 1 [.slice Ap p.length cp] rfl rfl (Lies.one w2 23 _) (by simp [Value.oneCell']) (by unfold maxLen; omega) (by omega) (by simp; omega) ?_; intro A4 c4 w3 hw3 hg3 hat3))
            have R := keep_step (Nat.le_refl _) hbw.size ha hw hv hy8 hb2 ha2 hg2 hw3 hg3
            go_roundw
            case rel => exact ⟨k + 1, by omega, by omega, by go_num, by rw [HN.out]; exact R.1, by rw [HN.out]; exact R.2.1, hbw.trans R.2.2⟩
            case measure => simp [intOf]; omega
      · have hub := keep_used 500 ls k
        have hlb := keep_len 500 ls k
        have hmem : ∀ p ∈ keep 500 (ls.take k), 0 < p.length ∧ p.length ≤ 4000 := fun p hp => by have := keep_mem hp; omega
        generalize keep 500 (ls.take k) = ks at ha hw hv hub hlb hmem ⊢
        have HM := Lib.hid hmem
        clear hmem
        have hub2 : Fr.used ks ≤ 2530 := by omega
        have hfl := full_length r
        have hfu := Fr.full_used r
        rcases (show ls.length ≤ k ∨ (k < ls.length ∧ 5 ≤ k) by omega) with hge | ⟨hg1, hg2⟩
        all_goals
          go_wp2_with fail
          refine (scan_got B d r.length r wr (Fr.full r) rfl rfl ((hr.below hbw).more hbw.size) hd (by omega)).mono ?_
          rintro e w2 ⟨A2, c2, ys, rfl, hm2, ho2, hb2⟩
          have hb2' := hbw.trans (hb2.mono hbw.size)
          have ha2 := own_below ha hb2
          have hw2 := own_below hw hb2
          have ho0 := World.ownsRow_made (e := 5) (size := 1) w2 #[] 0 (Nat.le_refl _) (Nat.zero_le _) rfl
          have hya : Lies w2 w2.heap.size Aa (bytesV (Fr.wraps ks)) := Lies.of_own ha2
          have hyr : Bytes w2 w2.heap.size B r := (hr.below hb2').more hb2'.size
          go_wp2_with (first
            | (at_builtin; refine wpList_append_from _ rfl (.tmp 82) (.tmp 83) 23 rfl w2.heap.size 5 i0 _ 1 Try.underlying23 hi0 hz0 hz1 hz2 rfl _ 0 [] rfl ho0 w2.heap.size Aa (Fr.used ks) ca (bytesV (Fr.wraps ks)) rfl (by rw [bytesV_length, Fr.wraps_length]) (hya.alloc (Nat.le_refl _) _) (bytesV_one _) (by unfold maxLen; omega) (by omega) (by simp) ?_; intro A3 c3 w3 hown3 hg3 hat3; simp only [Nat.zero_add, List.nil_append] at hown3; have hb3 : Below w2.heap.size w2 w3 := ((Below.refl w2.heap.size w2).alloc (Nat.le_refl _) _).trans (below_append ho0 hg3 (Nat.le_refl _) (by simp)); have hy3 := hyr.below hb3)
            | (at_builtin; refine wpList_append_from _ rfl (.tmp 84) (.tmp 85) 23 rfl w2.heap.size 5 i0 _ 1 Try.underlying23 hi0 hz0 hz1 hz2 rfl _ _ _ rfl hown3 w2.heap.size B r.length d (bytesV r) rfl (bytesV_length r) hy3 (bytesV_one _) (by unfold maxLen; omega) (by omega) hb3.size ?_; intro A4 c4 w4 hown4 hg4 hat4; have hb4 : Below w2.heap.size w2 w4 := hb3.trans (below_append hown3 hg4 (Nat.le_refl _) hb3.size)))
          rw [← bytesV_append] at hown4
          refine (scan_got A4 c4 _ (Fr.wraps ks ++ r) w4 (ks ++ Fr.full r) (by rw [List.length_append, Fr.wraps_length]) (Fr.full_wraps ks r HM.out) (Lies.of_own hown4) (own_cap hown4) (by omega)).mono ?_
          rintro e w5 ⟨A5, c5, zs, rfl, hz5, hzo5, hb5⟩
          have hb25 : Below w2.heap.size w2 w5 := hb4.trans (hb5.mono hb4.size)
          have hb5' := hb2'.trans (hb25.mono hb2'.size)
          have hw5 := own_below hw2 hb25
          have hv5 := hv.below ((hb2.mono hbw.size).trans (hb25.mono hb2'.size))
          have hm5 := own_below hm2 hb25
          have ho5 := ho2.below hb25
          go_wp2_with (at_builtin; refine wpList_append_from _ rfl (.tmp 91) (.tmp 92) 27 rfl w.heap.size 23 j0 _ 24 Try.underlying27 hj0 hy0 hy1 hy2 rfl _ ks.length xs rfl hw5 w5.heap.size A2 (Fr.full r).length c2 ys rfl ho5.1 (Lies.of_own hm5) ho5.vals.oneCell (by unfold maxLen; omega) (by omega) hb5'.size ?_; intro A6 c6 w6 hown6 hg6 hat6)
          have hb6 := below_append hw5 hg6 (Nat.le_refl _) hb5'.size
          have ho6 := ho5.kept hw5 hg6
          have ht6 : Texts w6 w6.heap.size A6 (ks ++ Fr.full r) := (((hv5.below hb6).more (Nat.le_trans hb5'.size hb6.size)).append ho6.vals).texts (Lies.of_own hown6)
          have ht56 : Texts w6 w6.heap.size A5 (ks ++ Fr.full r) := by
            have hz6 := hz5.kept hg6 (own_later hz5 hw2 (by have := hb4.size; omega))
            exact (hzo5.kept hw5 hg6).vals.texts (Lies.of_own hz6)
          have hsm := same_any A5 A6 c5 c6 w6.heap.size (ks ++ Fr.full r) (ks ++ Fr.full r) w6 ht56 ht6 (by rw [List.length_append]; omega)
          rw [List.length_append, beq_self_eq_true] at hsm
          refine hsm.mono ?_
          rintro e w7 ⟨rfl, n, rfl⟩
          have eu : ((Fr.used (ks ++ Fr.full r) : Nat) : Int) = (Fr.used ks : Int) + Fr.used (Fr.full r) := by rw [Fr.used_append]; omega
          go_wp2
          go_ret
          exact ⟨rfl, below_draws (hb5'.trans hb6)⟩

theorem own : ownKnob Try.prog.godebug = none := by kernel_rfl
theorem laidOut : laidOutB Try.prog = true := by kernel_rfl
set_option maxRecDepth 100000 in
theorem lifted (os : Os) (started : os.Started) (H : Type) (enc : TypeId × Value → H) :
    ReturnsInHanded {} Try.checked os 7 .any (Rows.frameSplitSpec.pre6 enc Try.prog Try.f7 Rows.frameSplitRow.domain false) (Rows.frameSplitSpec.post enc Try.prog Try.f7 false true false false) := by
  refine returnsInHanded_of_change (C := Try.checked) own started (by kernel_rfl) Try.func7
    (ChangeSpec.witness6 (enc := enc) (C := Try.checked) false ⟨#[], #[.slice none 0 0, .slice none 0 0], []⟩ 8 (by kernel_rfl) (by kernel_rfl) (by kernel_rfl) (by kernel_rfl)) ?_
  intro W base args ds gs before hval0 hW _ _
  have hval : ∀ (j : Nat) t v, Try.f7.params[j]? = some t → args[j]? = some v → Value.okWide Try.prog W .any base t v := hval0
  have hW' := hW
  obtain ⟨p, q, hA0, hV, rfl, _, _⟩ := hW
  have hA : DataW.TrodAll enc Try.prog W 0 (fun _ => true) true Try.f7.params.toList args.toList ds p := hA0
  rw [Try.params7] at hA hval
  obtain ⟨v0, vs0, d0, ds0, p0, q0, hargs, rfl, rfl, h0, r0⟩ := trodAll_cons hA
  obtain ⟨v1, vs1, d1, ds1, p1, q1, rfl, rfl, rfl, h1, r1⟩ := trodAll_cons r0
  obtain ⟨rfl, rfl, rfl⟩ := trodAll_nil r1
  obtain rfl : args = #[v0, v1] := by cases args; simp_all
  obtain ⟨rfl, rfl⟩ := trodVars_none hV
  obtain ⟨a0, len0, cap0, rfl⟩ := okWide_slice Try.underlying27 (hval 0 27 v0 rfl rfl)
  have k0 := h0
  have lt0 : ∀ x ∈ p0, x.block < W.heap.size := by obtain ⟨m, hm⟩ := k0; exact DataW.trod_lt m _ _ _ hm
  obtain ⟨l0, hl0, hc0, hm0, hb0, hx0⟩ := open_texts Try.underlying27 Try.underlying23 Try.underlying5 (by kernel_rfl) (by kernel_rfl) h0
  subst hl0
  obtain ⟨a1, len1, cap1, rfl⟩ := okWide_slice Try.underlying23 (hval 1 23 v1 rfl rfl)
  have k1 := h1
  have lt1 : ∀ x ∈ p1, x.block < W.heap.size := by obtain ⟨m, hm⟩ := k1; exact DataW.trod_lt m _ _ _ hm
  obtain ⟨l1, hl1, hc1, hm1, hb1⟩ := open_bytes Try.underlying23 Try.underlying5 (by kernel_rfl) h1
  subst hl1
  clear hA0 hval0
  refine (walk a0 cap0 l0 a1 cap1 l1 W hc0 hm0 hb0 hx0 hc1 hm1 hb1).mono fun e W' ⟨he, bel⟩ => ?_
  subst he
  exact ⟨_, rfl, _, _, _, [], _, [], hW', trodAll_mk1 (shut_bool Try.underlying4 _), (trodAll_cons_mk (Below.trod laidOut (by kernel_rfl) (of_decide_eq_true (by kernel_rfl)) k0 bel lt0) (trodAll_cons_mk (Below.trod laidOut (by kernel_rfl) (of_decide_eq_true (by kernel_rfl)) k1 bel lt1) trodAll_mk0)), rfl, bel.frame _, fun h => by cases h⟩
theorem over : Rows.frameSplitRow.holds Try.pinned (OpenSpec.ofChange Rows.frameSplitSpec) :=
  OpenClaim.holds_of_wide 7 Try.f7 rfl rfl rfl rfl rfl rfl rfl ⟨rfl, rfl, rfl, rfl, rfl⟩ rfl rfl rfl rfl rfl (by kernel_rfl) Try.func7 (by kernel_rfl)
    (of_decide_eq_true (by kernel_rfl)) (by unfold Func.isWrapper; first | (rw [if_pos (by decide +kernel)]; kernel_rfl) | (rw [if_neg (by decide +kernel)]; exact ⟨rfl, rfl⟩))
    (fun os started H enc _ => lifted os started H enc)
theorem proved : Rows.FrameSplitSaid := over
end Go.Proofs.Ytckjjionidaecaa.frameSplit
