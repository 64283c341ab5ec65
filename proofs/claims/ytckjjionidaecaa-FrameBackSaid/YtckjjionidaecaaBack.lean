/- FrameBack: for every [][]byte and every int the law returns true, and the arguments read behind the call as before. No conditions. -/
import Derived.Test.YtckjjionidaecaaKeep
namespace Go.Proofs.Ytckjjionidaecaa.frameBack
open Go.ChangeShapes Go.WideShapes Go.ChangeAt Go.RowKit

theorem full_all (ks : List (List UInt8)) (h : ∀ p ∈ ks, 0 < p.length ∧ p.length ≤ 4000) : Fr.full (Fr.wraps ks) = ks := by
  have := Fr.full_wraps ks [] h
  rw [List.append_nil, Fr.full_nil, List.append_nil] at this
  exact this

theorem nil_or_snoc (ks : List (List UInt8)) : ks = [] ∨ ∃ qs p, ks = qs ++ [p] := by
  rcases ks.eq_nil_or_concat with h | ⟨qs, p, h⟩
  · exact .inl h
  · exact .inr ⟨qs, p, by simpa using h⟩
/-- Where the last frame begins. -/
def LastAt (ks : List (List UInt8)) (L : Nat) : Prop := L = Fr.used ks.dropLast
theorem LastAt.snoc (ks : List (List UInt8)) (p : List UInt8) : LastAt (ks ++ [p]) (Fr.used ks) := by unfold LastAt; rw [List.dropLast_concat]
theorem LastAt.at_ {qs : List (List UInt8)} {p : List UInt8} {L : Nat} (h : LastAt (qs ++ [p]) L) : L = Fr.used qs := by unfold LastAt at h; rwa [List.dropLast_concat] at h

set_option maxRecDepth 100000 in
set_option maxHeartbeats 2000000 in
theorem walk (A : Option Addr) (c : Nat) (ls : List (List UInt8)) (cut : Int) (w : World) (_hc : ls.length ≤ c) (_hm : c ≤ 9223372036854775807) (ht : Texts w w.heap.size A ls) (hx : ∀ x ∈ ls, x.length ≤ 9223372036854775807)
    (wc : (Lit.int .i64 cut).wf = true) :
    Calls Try.prog 5 #[.slice A ls.length c, .int .i64 cut] w fun e w' => e = .returned (.bool true) ∧ Below w.heap.size w w' := by
  obtain ⟨i0, hi0, hz0, hz1, hz2⟩ := info_parts Try.info5
  obtain ⟨j0, hj0, hy0, hy1, hy2⟩ := info_parts Try.info23
  have bc := bounds_i64 wc
  go_enter Try.func5, Try.ntmps5
  go_wp2_with fail
  refine (awake_any _).mono ?_
  rintro e w1 ⟨rfl, hb1⟩
  go_wp2_with fail
  go_loopw [6, 7, 8, 9] (fun va vw vl i wr => ∃ k L : Nat, k ≤ ls.length ∧ k ≤ 10 ∧ i = .int .i64 k ∧ vl = .int .i64 L ∧ LastAt (keep 1000 (ls.take k)) L ∧ AllIn wr w.heap.size va (keep 1000 (ls.take k)) ∧ TextIn wr w.heap.size w.heap.size vw (keep 1000 (ls.take k)) ∧ Below w.heap.size w wr)
    (fun _ _ _ i _ => 10 - (intOf i).toNat)
  case atStart => exact ⟨0, 0, by omega, by omega, rfl, rfl, rfl, AllIn.none_ _ _, TextIn.none_ _ _ _, hb1⟩
  case round =>
    obtain ⟨k, L, hk, hk5, rfl, rfl, hL, ⟨Aa, ca, rfl, ha⟩, ⟨Aw, cw, xs, rfl, hw, hv⟩, hbw⟩ := hrel
    by_cases hlt : k < ls.length ∧ k < 10
    · obtain ⟨hkl, hkf⟩ := hlt
      have htr := ht.below hbw
      obtain ⟨b8, o8, Ap, cp, rfl, hb8, e8, hy8⟩ := htr.at_ hkl
      obtain ⟨p, hp⟩ : ∃ p, p = ls[k] := ⟨_, rfl⟩
      have hxp : p.length ≤ 9223372036854775807 := by rw [hp]; exact hx _ (List.getElem_mem hkl)
      rw [← hp] at e8 hy8
      have hkeep : ∀ q, q = ls[k] → (q.length = 0 ∨ 1000 < q.length → keep 1000 (ls.take (k + 1)) = keep 1000 (ls.take k)) ∧ (0 < q.length → q.length ≤ 1000 → keep 1000 (ls.take (k + 1)) = keep 1000 (ls.take k) ++ [q]) :=
        fun q hq => ⟨fun h => keep_no hkl (by rw [← hq]; exact h), fun h0 h1 => by rw [hq]; exact keep_yes hkl (by rw [← hq]; exact h0) (by rw [← hq]; exact h1)⟩
      have hkp := hkeep p hp
      have hub := keep_used 1000 ls k
      have hlb := keep_len 1000 ls k
      clear hp hkeep
      obtain ⟨ks, hks⟩ : ∃ ks, ks = keep 1000 (ls.take k) := ⟨_, rfl⟩
      rw [← hks] at hkp ha hw hv hub hlb hL ⊢
      have HK := Lib.hid hkp
      have HS := Lib.hid hks
      clear hkp hks
      have hub2 : Fr.used ks ≤ 10060 := by omega
      by_cases h5 : 1000 < p.length
      · have HN := Lib.hid (HK.out.1 (.inr h5))
        go_wp2
        go_roundw
        case rel => exact ⟨k + 1, L, by omega, by omega, by go_num, rfl, by rw [HN.out]; exact hL, by rw [HN.out]; exact ⟨_, _, rfl, ha⟩, by rw [HN.out]; exact ⟨_, _, xs, rfl, hw, hv⟩, hbw⟩
        case measure => simp [intOf]; omega
      · by_cases h0 : p.length = 0
        · have HN := Lib.hid (HK.out.1 (.inl h0))
          go_wp2_with fail
          refine (wrap_none Ap cp 0 wr rfl).mono ?_
          rintro e w1 ⟨rfl, rfl⟩
          go_wp2
          go_roundw
          case rel => exact ⟨k + 1, L, by omega, by omega, by go_num, rfl, by rw [HN.out]; exact hL, by rw [HN.out]; exact ⟨_, _, rfl, ha⟩, by rw [HN.out]; exact ⟨_, _, xs, rfl, hw, hv⟩, hbw⟩
          case measure => simp [intOf]; omega
        · have HN := Lib.hid (HK.out.2 (by omega) (by omega))
          have hp0 : 0 < p.length := by omega
          clear h0
          go_wp2_with fail
          refine (wrap_any Ap cp p wr (hy8.more hbw.size) hp0 (by omega)).mono ?_
          rintro e w1 ⟨A2, c2, rfl, ho2, hb2⟩
          have e9 : w1.cell? ⟨b8, o8 + k, none⟩ = some (.slice Ap p.length cp) := (hb2.cell (p := ⟨b8, o8 + k, none⟩) (by show b8 < wr.heap.size; have := hbw.size; omega)).trans e8
          have ha1 := own_below ha hb2
          have hw1 := own_below hw hb2
          have hs1 : w.heap.size ≤ w1.heap.size := Nat.le_trans hbw.size hb2.size
          go_wp2_with (first
            | (at_builtin; refine wpList_append_from _ rfl (.tmp 54) (.tmp 55) 23 rfl w.heap.size 5 i0 _ 1 Try.underlying23 hi0 hz0 hz1 hz2 rfl _ _ _ rfl ha1 w1.heap.size A2 (6 + p.length) c2 (bytesV (Fr.wrap p)) rfl (by rw [bytesV_length, Fr.wrap_length]) (Lies.of_own ho2) (bytesV_one _) (by unfold maxLen; omega) (by omega) hs1 ?_; intro A3 c3 w2 ha2 hg2 hat2; have hb3 := below_append ha1 hg2 (Nat.le_refl _) hs1; have hw2 := hw1.kept hg2 (own_ne hw1 ha1 (by decide)); have e10 : w2.cell? ⟨b8, o8 + k, none⟩ = some (.slice Ap p.length cp) := (hb3.cell (p := ⟨b8, o8 + k, none⟩) hb8).trans e9; have hs2 : w.heap.size ≤ w2.heap.size := Nat.le_trans hs1 hb3.size)
            | (at_builtin; refine wpList_append_from _ rfl (.tmp 57) (.tmp 62) 27 rfl w.heap.size 23 j0 _ 24 Try.underlying27 hj0 hy0 hy1 hy2 rfl _ ks.length xs rfl (hw2.alloc _) (w2.heap.size + 1) (some ⟨w2.heap.size, 0, none⟩) 1 1 [.slice Ap p.length cp] rfl rfl (Lies.one w2 23 _) (by simp [Value.oneCell']) (by unfold maxLen; omega) (by omega) (by simp; omega) ?_; intro A4 c4 w3 hw3 hg3 hat3))
          have R := keep_step (Nat.le_refl _) hbw.size ha hw hv hy8 hb2 ha2 hg2 hw3 hg3
          go_roundw
          case rel => exact ⟨k + 1, Fr.used ks, by omega, by omega, by go_num, rfl, by rw [HN.out]; exact LastAt.snoc ks p, by rw [HN.out]; exact R.1, by rw [HN.out]; exact R.2.1, hbw.trans R.2.2⟩
          case measure => simp [intOf]; omega
    · have hub := keep_used 1000 ls k
      have hlb := keep_len 1000 ls k
      have hmem : ∀ p ∈ keep 1000 (ls.take k), 0 < p.length ∧ p.length ≤ 4000 := fun p hp => by have := keep_mem hp; omega
      generalize keep 1000 (ls.take k) = ks at ha hw hv hub hlb hmem hL ⊢
      have HM := Lib.hid hmem
      clear hmem
      have hub2 : Fr.used ks ≤ 10060 := by omega
      rcases nil_or_snoc ks with rfl | ⟨qs, p, rfl⟩
      · clear hub hub2 hlb
        have e0 : Fr.used ([] : List (List UInt8)) = 0 := rfl
        rw [e0] at ha ⊢
        rcases (show ls.length ≤ k ∨ (k < ls.length ∧ 10 ≤ k) by omega) with hge | ⟨hg1, hg2⟩
        all_goals
          go_wp2_with fail
          refine (scan_got Aa ca 0 [] wr [] rfl rfl (.inl rfl) (Nat.zero_le _) (by omega)).mono ?_
          rintro e w2 ⟨A2, c2, ys, rfl, hm2, ho2, hb2⟩
          have hb2' := hbw.trans (hb2.mono hbw.size)
          go_wp2_with fail
          refine (same_any A2 Aw c2 cw 0 [] [] w2 (Texts.nil _ _ _) (Texts.nil _ _ _) (by simp)).mono ?_
          rintro e w3 ⟨rfl, n, rfl⟩
          go_wp2
          go_ret
          exact ⟨rfl, below_draws hb2'⟩
      · obtain rfl := hL.at_
        obtain ⟨U, hU⟩ : ∃ U, U = Fr.used (qs ++ [p]) := ⟨_, rfl⟩
        have hU2 : U = Fr.used qs + (6 + p.length) := by rw [hU, Fr.used_snoc]
        have hK : (qs ++ [p]).length = qs.length + 1 := by simp
        rw [← hU] at ha hub2 ⊢
        rw [hK] at hw hlb ⊢
        have HU := Lib.hid hU
        have HK := Lib.hid hK
        have HU2 := Lib.hid hU2
        have hu3 : Fr.used qs + 6 + p.length ≤ U := by omega
        have hu4 : U ≤ Fr.used qs + 6 + p.length := by omega
        clear hU hK hL hU2 hub
        by_cases hs : cut < 0
        · obtain ⟨N, rfl⟩ : ∃ N : Nat, cut = -(N : Int) - 1 := ⟨(-(cut + 1)).toNat, by omega⟩
          obtain ⟨J, hJ⟩ : ∃ J, J = N % (U - Fr.used qs) := ⟨_, rfl⟩
          have hJl : J < U - Fr.used qs := by rw [hJ]; exact Nat.mod_lt _ (by omega)
          have m2 : (N : Int) % ((U : Int) - (Fr.used qs : Int)) = (J : Int) := by rw [hJ, show (U : Int) - (Fr.used qs : Int) = ((U - Fr.used qs : Nat) : Int) by omega]; exact (Int.natCast_emod _ _).symm
          have m1 : (N : Int).tmod ((U : Int) - (Fr.used qs : Int)) = (J : Int) := by rw [Int.tmod_eq_emod_of_nonneg (by omega)]; exact m2
          have hcap := own_cap ha
          have hcapw := own_cap hw
          have hJU : Fr.used qs + J ≤ U := by omega
          have hshort : Fr.full ((Fr.wraps (qs ++ [p])).take (Fr.used qs + J)) = qs := by
            have h2 := HM.out p (by simp)
            have := Fr.full_cut qs p J (fun x hx => HM.out x (by simp [hx])) h2.2 (by have := HU2.out; omega)
            rwa [Fr.wraps_length] at this
          have hslen : ((Fr.wraps (qs ++ [p])).take (Fr.used qs + J)).length = Fr.used qs + J := by rw [List.length_take, Fr.wraps_length, ← HU.out]; omega
          have hys : Bytes wr wr.heap.size Aa ((Fr.wraps (qs ++ [p])).take (Fr.used qs + J)) := by
            have h1 : Bytes wr wr.heap.size Aa (Fr.wraps (qs ++ [p])) := Lies.of_own ha
            have := h1.cut (k := 0) (n := Fr.used qs + J) (by rw [bytesV_length, Fr.wraps_length, ← HU.out]; omega) Aa (fun _ => by cases Aa <;> simp [Addr.add])
            rwa [bytesV_cut, List.drop_zero] at this
          have HS1 := Lib.hid hshort
          have HS2 := Lib.hid hslen
          clear hshort hslen hJ
          rcases (show ls.length ≤ k ∨ (k < ls.length ∧ 10 ≤ k) by omega) with hge | ⟨hg1, hg2⟩
          all_goals
            go_wp2_with fail
            refine (scan_got Aa ca U (Fr.wraps (qs ++ [p])) wr (qs ++ [p]) (by rw [Fr.wraps_length]; exact HU.out.symm) (full_all _ HM.out) (Lies.of_own ha) (own_cap ha) (by omega)).mono ?_
            rintro e w2 ⟨A2, c2, ys, rfl, hm2, ho2, hb2⟩
            have hb2' := hbw.trans (hb2.mono hbw.size)
            have ht2 : Texts w2 w2.heap.size A2 (qs ++ [p]) := ho2.vals.texts (Lies.of_own hm2)
            have htw : Texts w2 w2.heap.size Aw (qs ++ [p]) := ((hv.below (hb2.mono hbw.size)).more hb2'.size).texts (Lies.of_own (own_below hw hb2))
            have hsm := same_any A2 Aw c2 cw w2.heap.size (qs ++ [p]) (qs ++ [p]) w2 ht2 htw (by rw [HK.out]; omega)
            rw [← HU.out, HK.out]
            rw [HK.out, beq_self_eq_true] at hsm
            go_wp2_with fail
            refine hsm.mono ?_
            rintro e w3 ⟨rfl, n, rfl⟩
            go_wp2_with fail
            refine (scan_got Aa ca (Fr.used qs + J) _ (w2.drewN n) qs HS2.out HS1.out ((((hys.below hb2).more hb2.size)).drewN n) (by omega) (by omega)).mono ?_
            rintro e w4 ⟨A4, c4, zs, rfl, hm4, ho4, hb4⟩
            have hb4' : Below w.heap.size w w4 := (below_draws (n := n) hb2').trans (hb4.mono hb2'.size)
            have ht4 : Texts w4 w4.heap.size A4 qs := ho4.vals.texts (Lies.of_own hm4)
            have htq : Texts w4 w4.heap.size Aw qs := by
              have := ((htw.drewN n).below hb4).more hb4.size
              have := this.take qs.length
              rwa [List.take_left'] at this
              rfl
            have hsq := same_any A4 Aw c4 cw w4.heap.size qs qs w4 ht4 htq (by omega)
            rw [beq_self_eq_true] at hsq
            go_wp2_with fail
            refine hsq.mono ?_
            rintro e w5 ⟨rfl, n2, rfl⟩
            go_wp2
            go_ret
            exact ⟨rfl, below_draws hb4'⟩
        · obtain ⟨N, rfl⟩ : ∃ N : Nat, cut = (N : Int) := ⟨cut.toNat, by omega⟩
          obtain ⟨J, hJ⟩ : ∃ J, J = N % (U - Fr.used qs) := ⟨_, rfl⟩
          have hJl : J < U - Fr.used qs := by rw [hJ]; exact Nat.mod_lt _ (by omega)
          have m2 : (N : Int) % ((U : Int) - (Fr.used qs : Int)) = (J : Int) := by rw [hJ, show (U : Int) - (Fr.used qs : Int) = ((U - Fr.used qs : Nat) : Int) by omega]; exact (Int.natCast_emod _ _).symm
          have m1 : (N : Int).tmod ((U : Int) - (Fr.used qs : Int)) = (J : Int) := by rw [Int.tmod_eq_emod_of_nonneg (by omega)]; exact m2
          have hcap := own_cap ha
          have hcapw := own_cap hw
          have hJU : Fr.used qs + J ≤ U := by omega
          have hshort : Fr.full ((Fr.wraps (qs ++ [p])).take (Fr.used qs + J)) = qs := by
            have h2 := HM.out p (by simp)
            have := Fr.full_cut qs p J (fun x hx => HM.out x (by simp [hx])) h2.2 (by have := HU2.out; omega)
            rwa [Fr.wraps_length] at this
          have hslen : ((Fr.wraps (qs ++ [p])).take (Fr.used qs + J)).length = Fr.used qs + J := by rw [List.length_take, Fr.wraps_length, ← HU.out]; omega
          have hys : Bytes wr wr.heap.size Aa ((Fr.wraps (qs ++ [p])).take (Fr.used qs + J)) := by
            have h1 : Bytes wr wr.heap.size Aa (Fr.wraps (qs ++ [p])) := Lies.of_own ha
            have := h1.cut (k := 0) (n := Fr.used qs + J) (by rw [bytesV_length, Fr.wraps_length, ← HU.out]; omega) Aa (fun _ => by cases Aa <;> simp [Addr.add])
            rwa [bytesV_cut, List.drop_zero] at this
          have HS1 := Lib.hid hshort
          have HS2 := Lib.hid hslen
          clear hshort hslen hJ
          rcases (show ls.length ≤ k ∨ (k < ls.length ∧ 10 ≤ k) by omega) with hge | ⟨hg1, hg2⟩
          all_goals
            go_wp2_with fail
            refine (scan_got Aa ca U (Fr.wraps (qs ++ [p])) wr (qs ++ [p]) (by rw [Fr.wraps_length]; exact HU.out.symm) (full_all _ HM.out) (Lies.of_own ha) (own_cap ha) (by omega)).mono ?_
            rintro e w2 ⟨A2, c2, ys, rfl, hm2, ho2, hb2⟩
            have hb2' := hbw.trans (hb2.mono hbw.size)
            have ht2 : Texts w2 w2.heap.size A2 (qs ++ [p]) := ho2.vals.texts (Lies.of_own hm2)
            have htw : Texts w2 w2.heap.size Aw (qs ++ [p]) := ((hv.below (hb2.mono hbw.size)).more hb2'.size).texts (Lies.of_own (own_below hw hb2))
            have hsm := same_any A2 Aw c2 cw w2.heap.size (qs ++ [p]) (qs ++ [p]) w2 ht2 htw (by rw [HK.out]; omega)
            rw [← HU.out, HK.out]
            rw [HK.out, beq_self_eq_true] at hsm
            go_wp2_with fail
            refine hsm.mono ?_
            rintro e w3 ⟨rfl, n, rfl⟩
            go_wp2_with fail
            refine (scan_got Aa ca (Fr.used qs + J) _ (w2.drewN n) qs HS2.out HS1.out ((((hys.below hb2).more hb2.size)).drewN n) (by omega) (by omega)).mono ?_
            rintro e w4 ⟨A4, c4, zs, rfl, hm4, ho4, hb4⟩
            have hb4' : Below w.heap.size w w4 := (below_draws (n := n) hb2').trans (hb4.mono hb2'.size)
            have ht4 : Texts w4 w4.heap.size A4 qs := ho4.vals.texts (Lies.of_own hm4)
            have htq : Texts w4 w4.heap.size Aw qs := by
              have := ((htw.drewN n).below hb4).more hb4.size
              have := this.take qs.length
              rwa [List.take_left'] at this
              rfl
            have hsq := same_any A4 Aw c4 cw w4.heap.size qs qs w4 ht4 htq (by omega)
            rw [beq_self_eq_true] at hsq
            go_wp2_with fail
            refine hsq.mono ?_
            rintro e w5 ⟨rfl, n2, rfl⟩
            go_wp2
            go_ret
            exact ⟨rfl, below_draws hb4'⟩

theorem own : ownKnob Try.prog.godebug = none := by kernel_rfl
theorem laidOut : laidOutB Try.prog = true := by kernel_rfl
set_option maxRecDepth 100000 in
theorem lifted (os : Os) (started : os.Started) (H : Type) (enc : TypeId × Value → H) :
    ReturnsInHanded {} Try.checked os 5 .any (Rows.frameBackSpec.pre6 enc Try.prog Try.f5 Rows.frameBackRow.domain false) (Rows.frameBackSpec.post enc Try.prog Try.f5 false true false false) := by
  refine returnsInHanded_of_change (C := Try.checked) own started (by kernel_rfl) Try.func5
    (ChangeSpec.witness6 (enc := enc) (C := Try.checked) false ⟨#[], #[.slice none 0 0, .int .i64 0], []⟩ 8 (by kernel_rfl) (by kernel_rfl) (by kernel_rfl) (by kernel_rfl)) ?_
  intro W base args ds gs before hval0 hW _ _
  have hval : ∀ (j : Nat) t v, Try.f5.params[j]? = some t → args[j]? = some v → Value.okWide Try.prog W .any base t v := hval0
  have hW' := hW
  obtain ⟨p, q, hA0, hV, rfl, _, _⟩ := hW
  have hA : DataW.TrodAll enc Try.prog W 0 (fun _ => true) true Try.f5.params.toList args.toList ds p := hA0
  rw [Try.params5] at hA hval
  obtain ⟨v0, vs0, d0, ds0, p0, q0, hargs, rfl, rfl, h0, r0⟩ := trodAll_cons hA
  obtain ⟨v1, vs1, d1, ds1, p1, q1, rfl, rfl, rfl, h1, r1⟩ := trodAll_cons r0
  obtain ⟨rfl, rfl, rfl⟩ := trodAll_nil r1
  obtain rfl : args = #[v0, v1] := by cases args; simp_all
  obtain ⟨rfl, rfl⟩ := trodVars_none hV
  obtain ⟨a0, len0, cap0, rfl⟩ := okWide_slice Try.underlying27 (hval 0 27 v0 rfl rfl)
  have k0 := h0
  have lt0 : ∀ x ∈ p0, x.block < W.heap.size := by obtain ⟨m, hm⟩ := k0; exact DataW.trod_lt m _ _ _ hm
  obtain ⟨l0, hl0, hc0, hm0, hb0, hx0⟩ := open_texts Try.underlying27 Try.underlying23 Try.underlying5 (by kernel_rfl) (by kernel_rfl) h0
  subst hl0
  obtain ⟨a1, rfl, rfl, rfl, w1⟩ := open_int Try.underlying3 (hval 1 3 v1 rfl rfl) h1
  clear hA0 hval0
  refine (walk a0 cap0 l0 a1 W hc0 hm0 hb0 hx0 w1).mono fun e W' ⟨he, bel⟩ => ?_
  subst he
  exact ⟨_, rfl, _, _, _, [], _, [], hW', trodAll_mk1 (shut_bool Try.underlying4 _), (trodAll_cons_mk (Below.trod laidOut (by kernel_rfl) (of_decide_eq_true (by kernel_rfl)) k0 bel lt0) (trodAll_cons_mk (shut_int Try.underlying3 w1) trodAll_mk0)), rfl, bel.frame _, fun h => by cases h⟩
theorem over : Rows.frameBackRow.holds Try.pinned (OpenSpec.ofChange Rows.frameBackSpec) :=
  OpenClaim.holds_of_wide 5 Try.f5 rfl rfl rfl rfl rfl rfl rfl ⟨rfl, rfl, rfl, rfl, rfl⟩ rfl rfl rfl rfl rfl (by kernel_rfl) Try.func5 (by kernel_rfl)
    (of_decide_eq_true (by kernel_rfl)) (by unfold Func.isWrapper; first | (rw [if_pos (by decide +kernel)]; kernel_rfl) | (rw [if_neg (by decide +kernel)]; exact ⟨rfl, rfl⟩))
    (fun os started H enc _ => lifted os started H enc)
theorem proved : Rows.FrameBackSaid := over
end Go.Proofs.Ytckjjionidaecaa.frameBack
