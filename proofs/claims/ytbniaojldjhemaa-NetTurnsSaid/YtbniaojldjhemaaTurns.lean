/- NetTurns: for every [][]byte the law returns true, and the texts read behind the call as before. No conditions. -/
import Derived.Test.YtbniaojldjhemaaTexts
namespace Go.Proofs.Ytbniaojldjhemaa.netTurns
open Go.Conc Go.ChangeShapes Go.WideShapes Go.ChangeAt Go.RowKit

set_option maxRecDepth 100000 in
theorem walk_out (A : Option Addr) (c n : Nat) (w : World) (h : n = 0 ∨ 7 < n) :
    Calls Try.prog 7 #[.slice A n c] w fun e w' => e = .returned (.bool true) ∧ Below w.heap.size w w' := by
  rcases h with rfl | h
  · go_enter Try.func7, Try.ntmps7
    go_wp2_with fail
    refine (awake_any _).mono ?_
    rintro e w1 ⟨rfl, hb1⟩
    go_wp2_with fail
    go_ret
    exact ⟨rfl, hb1⟩
  · have e0 : ((n : Int) == 0) = false := by rw [beq_eq_false_iff_ne]; omega
    go_enter Try.func7, Try.ntmps7
    go_wp2_with fail
    refine (awake_any _).mono ?_
    rintro e w1 ⟨rfl, hb1⟩
    go_wp2_with fail
    go_ret
    exact ⟨rfl, hb1⟩

theorem lens_take {K : List Msg} {ls : List (List UInt8)} {k : Nat} (hk : k < ls.length) (h : K.map Msg.l = ls.take k) (m : Msg) (hm : m.l = ls[k]) : (K ++ [m]).map Msg.l = ls.take (k + 1) := by
  rw [List.map_append, h, List.take_succ_eq_append_getElem hk]
  simp [hm]

set_option maxRecDepth 100000 in
set_option maxHeartbeats 4000000 in
theorem walk_in (A : Option Addr) (c n : Nat) (ls : List (List UInt8)) (w : World) (h : Texts w w.heap.size A ls) (hn : ls.length = n) (h0 : 0 < n) (h7 : n ≤ 7) :
    Calls Try.prog 7 #[.slice A n c] w fun e w' => e = .returned (.bool true) ∧ Below w.heap.size w w' := by
  have e0 : ((n : Int) == 0) = false := by rw [beq_eq_false_iff_ne]; omega
  have h0' : (0 : Int) < (n : Int) := by omega
  obtain ⟨b0, off0, rfl⟩ : ∃ b o, A = some ⟨b, o, none⟩ := by
    obtain ⟨b0, off0, A0, c0, e, _, _, _⟩ := h.at_ (k := 0) (by omega)
    exact ⟨b0, off0, e⟩
  have HLN := Lib.hid hn
  clear hn
  go_enter Try.func7, Try.ntmps7
  go_wp2_with fail
  refine (awake_any _).mono ?_
  rintro e w1 ⟨rfl, hb1⟩
  have HT := const_two w1 (0, 0)
  go_wp2_with fail
  refine (new_ok _ _ _ _ _ (HT.more (by simp))).mono ?_
  rintro e w2 ⟨qn, B, L, rfl, N2, HL, hb2⟩
  simp only [World.size_alloc] at N2
  obtain ⟨⟨x, hx, hxf, hxt⟩, _⟩ := HL.all 1 (by omega) (by omega)
  simp only [p0] at hxt
  have hxf' : x.f = 1 := by simpa using hxf
  have hxt' : x.t = 0 := by simpa using hxt
  have HX := Lib.hid (And.intro hxf' hxt')
  clear hxf hxt hxf' hxt' HL HT
  have hs2 := hb2.size
  simp only [World.size_alloc] at hs2
  have hb02 : Below w.heap.size w w2 := (hb1.alloc hb1.size _).trans (hb2.mono (by simp; have := hb1.size; omega))
  have hs02 := hb02.size
  have hs01 := hb1.size
  go_wp2_with fail
  go_loopw [6] (fun i_ wr => ∃ (k : Nat) (K : List Msg), i_ = .int .i64 k ∧ k ≤ n ∧ Hid (K.map Msg.l = ls.take k) ∧ Hid (K.length = k) ∧ Hid (∀ m ∈ K, m.l.length ≤ 200) ∧ NetAt wr (w1.heap.size + 1) qn B L (fun k => if k = x.c then K else []) ∧ Below w.heap.size w wr ∧ w2.heap.size ≤ wr.heap.size) (fun i _ => n - (intOf i).toNat)
  case atStart => exact ⟨0, [], rfl, by omega, (rfl : _ = _), (rfl : _ = _), fun m hm => (by simp at hm), N2.congr (fun y _ => by simp), hb02, Nat.le_refl _⟩
  case round =>
    obtain ⟨k, K, rfl, hk, HK, HKl, HKb, N3, hb03, hs23⟩ := hrel
    have hs03 := hb03.size
    by_cases hlt : k < n
    · have hlt' : (k : Int) < (n : Int) := by omega
      obtain ⟨b, off, A', c', hA, _, hcell, hy⟩ := (h.below hb03).at_ (k := k) (by rw [HLN.out]; exact hlt)
      injection hA with hA
      injection hA with hA1 hA2
      subst hA1 hA2
      have HK' : Hid (∀ m : Msg, m.l = ls[k]'(by rw [HLN.out]; exact hlt) → (K ++ [m]).map Msg.l = ls.take (k + 1)) := fun m hm => lens_take (by rw [HLN.out]; exact hlt) HK.out m hm
      generalize ls[k]'(by rw [HLN.out]; exact hlt) = p at *
      by_cases hp : 200 < p.length
      · go_wp2_with fail
        go_ret
        exact ⟨rfl, hb03⟩
      · have dp : p.length ≤ 200 := by omega
        have s1 := send_room wr _ qn B L _ N3 x hx A' c' w.heap.size p hy (by omega) (by omega) (by omega) (by simp; have := HKl.out; omega)
        rw [HX.out.1, HX.out.2] at s1
        have S1 := Lib.hid s1
        clear s1 hp
        go_wp2_with fail
        refine S1.out.mono ?_
        clear S1
        rintro e w4 ⟨rfl, m1, hm1, ho4, N4, T4, B4⟩
        have hs4 := T4.size
        have hb04 := hb03.trans (B4.mono (by omega))
        have N4' := N4.again
        simp only [if_true] at N4'
        have HF : Hid ((K ++ [m1]).map Msg.l = ls.take (k + 1)) := HK'.out m1 hm1
        have HG : Hid ((K ++ [m1]).length = k + 1) := (by have := HKl.out; simp [this] : (K ++ [m1]).length = k + 1)
        have HB : Hid (∀ m ∈ K ++ [m1], m.l.length ≤ 200) := fun m hm => by
          rcases List.mem_append.1 hm with hm | hm
          · exact HKb.out m hm
          · rw [List.mem_singleton] at hm
            subst hm
            rw [hm1]
            exact dp
        clear ho4 N4 HK' hm1
        go_wp2_with fail
        go_roundw
        case rel => exact ⟨k + 1, K ++ [m1], by go_num, by omega, HF, HG, HB, N4', hb04, by omega⟩
        case measure => simp [intOf]; omega
    · obtain rfl : k = n := by omega
      have HK2 : Hid (K.map Msg.l = ls) := (by have := HK.out; rwa [List.take_of_length_le (by rw [HLN.out]; exact Nat.le_refl _)] at this)
      clear HK hlt
      have N3' : NetAt wr (w1.heap.size + 1) qn B L (fun k => if k = x.c then K.drop 0 ++ K.take 0 else []) := N3.congr (fun y _ => by simp)
      clear N3
      go_wp2_with fail
      go_loopw [7] (fun i_ wr => ∃ j : Nat, i_ = .int .i64 j ∧ j ≤ k ∧ NetAt wr (w1.heap.size + 1) qn B L (fun k => if k = x.c then K.drop j ++ K.take j else []) ∧ Below w.heap.size w wr ∧ w2.heap.size ≤ wr.heap.size) (fun i _ => k - (intOf i).toNat)
      case atStart => exact ⟨0, rfl, by omega, N3', hb03, hs23⟩
      case round =>
        obtain ⟨j, rfl, hj, N4, hb04, hs24⟩ := hrel
        have hs04 := hb04.size
        by_cases hlt : j < k
        · have hlt' : (j : Int) < (k : Int) := by omega
          have hjK : j < K.length := by have := HKl.out; omega
          have hd : K.drop j = K[j] :: K.drop (j + 1) := List.drop_eq_getElem_cons hjK
          have htk : K.take (j + 1) = K.take j ++ [K[j]] := List.take_succ_eq_append_getElem hjK
          have s1 := turn_first wr _ qn B L _ N4 x hx K[j] (K.drop (j + 1) ++ K.take j) (by simp only [if_true]; rw [hd, List.cons_append]) (by have := HKl.out; simp; omega)
          rw [HX.out.1, HX.out.2] at s1
          have S1 := Lib.hid s1
          clear s1 hd
          have HTK := Lib.hid htk
          clear htk
          go_wp2_with fail
          refine S1.out.mono ?_
          clear S1
          rintro e w5 ⟨rfl, N5, T5, B5⟩
          have hs5 := T5.size
          have N5' : NetAt w5 (w1.heap.size + 1) qn B L (fun k => if k = x.c then K.drop (j + 1) ++ K.take (j + 1) else []) := N5.congr (fun y _ => by
            by_cases e : y.c = x.c
            · simp only [e, if_true, HTK.out, List.append_assoc]
            · simp [e])
          have hb05 := hb04.trans (B5.mono (by omega))
          clear N5 HTK
          go_wp2_with fail
          go_roundw
          case rel => exact ⟨j + 1, by go_num, by omega, N5', hb05, by omega⟩
          case measure => simp [intOf]; omega
        · obtain rfl : j = k := by omega
          clear hlt
          have N4' : NetAt wr (w1.heap.size + 1) qn B L (fun k => if k = x.c then K else []) := N4.congr (fun y _ => by
            have := HKl.out
            rw [List.drop_eq_nil_of_le (by omega), List.take_of_length_le (by omega), List.nil_append])
          obtain ⟨m0, q0, hK0⟩ : ∃ m0 q0, K = m0 :: q0 := by
            cases hK : K with
            | nil => have := HKl.out; rw [hK] at this; simp at this; omega
            | cons a b => exact ⟨a, b, rfl⟩
          have HK0 := Lib.hid hK0
          have s1 := twice_ok wr _ qn B L _ N4' x hx m0 q0 (by simp [hK0]) (by have := HKl.out; rw [hK0] at this; simp at this; omega) (by omega) (by have := HKb.out m0 (by rw [hK0]; simp); omega)
          rw [HX.out.1, HX.out.2] at s1
          have S1 := Lib.hid s1
          clear s1 hK0 N4
          go_wp2_with fail
          refine S1.out.mono ?_
          clear S1
          rintro e w5 ⟨rfl, m2, hm2, ho5, N5, T5, B5⟩
          have hs5 := T5.size
          have hb05 := hb04.trans (B5.mono (by omega))
          obtain ⟨M, hM⟩ : ∃ M, M = K ++ [m2] := ⟨_, rfl⟩
          have hMl : M.length = j + 1 := by have := HKl.out; rw [hM]; simp [this]
          have hMm : M.map Msg.l = ls ++ [m0.l] := by rw [hM, List.map_append, HK2.out]; simp [hm2]
          have N5' : NetAt w5 (w1.heap.size + 1) qn B L (fun k => if k = x.c then M.drop 0 else []) := N5.congr (fun y _ => by
            by_cases e : y.c = x.c
            · simp only [e, if_true, hM, List.drop_zero]; rw [HK0.out, List.cons_append]
            · simp [e])
          have s2 := long_in w5 _ qn B L _ N5' x hx
          rw [HX.out.1, HX.out.2] at s2
          simp only [if_true, List.drop_zero, hMl] at s2
          have S2 := Lib.hid s2
          have HMl := Lib.hid hMl
          have HMm := Lib.hid hMm
          clear s2 N5 N4' ho5 hm2 hM hMl hMm
          go_wp2_with fail
          refine S2.out.mono ?_
          clear S2
          rintro e w6 ⟨rfl, rfl⟩
          have hw1 : IntKind.i64.wrap ((j : Int) + 1) = ((j + 1 : Nat) : Int) := by rw [IntWalk.i64_in _ (by omega)]; omega
          go_wp2_with fail
          go_loopw [8] (fun i_ wr => ∃ k : Nat, i_ = .int .i64 k ∧ k ≤ j ∧ NetAt wr (w1.heap.size + 1) qn B L (fun q => if q = x.c then M.drop k else []) ∧ Below w.heap.size w wr ∧ w2.heap.size ≤ wr.heap.size) (fun i _ => j - (intOf i).toNat)
          case atStart => exact ⟨0, rfl, by omega, N5', hb05, by omega⟩
          case round =>
            obtain ⟨k, rfl, hk, N6, hb06, hs26⟩ := hrel
            have hs06 := hb06.size
            by_cases hlt : k < j
            · have hlt' : (k : Int) < (j : Int) := by omega
              have hkl : k < ls.length := by have := HLN.out; omega
              have hkM : k < M.length := by have := HMl.out; omega
              have hd : M.drop k = M[k] :: M.drop (k + 1) := List.drop_eq_getElem_cons hkM
              have hul : M[k].l = ls[k] := by
                have e1 : (M.map Msg.l)[k]? = (ls ++ [m0.l])[k]? := by rw [HMm.out]
                rw [List.getElem?_map, List.getElem?_eq_getElem hkM, List.getElem?_append_left hkl, List.getElem?_eq_getElem hkl] at e1
                injection e1
              obtain ⟨b, off, A', c', hA, _, hcell, hy⟩ := (h.below hb06).at_ (k := k) hkl
              injection hA with hA
              injection hA with hA1 hA2
              subst hA1 hA2
              have s1 := take_first wr _ qn B L _ N6 x hx M[k] (M.drop (k + 1)) (by simp only [if_true]; exact hd)
              rw [HX.out.1, HX.out.2] at s1
              have hyu := (N6.q x hx).2 M[k] (by simp only [if_true]; rw [hd]; exact List.mem_cons_self)
              generalize ls[k] = p at *
              generalize M[k] = u at *
              obtain ⟨uA, uc, ul⟩ := u
              simp only at hul hyu
              subst hul
              have S1 := Lib.hid s1
              clear s1 hd hkl hkM
              go_wp2_with fail
              refine S1.out.mono ?_
              clear S1
              rintro e w7 ⟨rfl, N7, T7, B7⟩
              have hs7 := T7.size
              have hb07 := hb06.trans (B7.mono (by omega))
              have hc7 := T7.cell hcell
              have t1 := fun i => run_text (P := Try.prog) (w7.drewN i) 24 9 5 (B := w7.heap.size) (show Bytes (w7.drewN i) w7.heap.size uA ul from hyu.turn (T7.draws i) T7.size) Try.underlying24 Try.underlying5 Try.underlying9 ul.length uc rfl
              have t2 := fun i => run_text (P := Try.prog) (w7.drewN i) 24 9 5 (B := w7.heap.size) (show Bytes (w7.drewN i) w7.heap.size A' ul from hy.turn (T7.draws i) (by omega)) Try.underlying24 Try.underlying5 Try.underlying9 ul.length c' rfl
              have N7' := N7.again
              have ebb : (ul == ul) = true := beq_self_eq_true _
              clear hcell hyu hy N7
              unfold Msg.val
              go_wp2
              go_quiet (fail)
              go_wp2
              go_roundw
              case rel => exact ⟨k + 1, by go_num, by omega, N7'.draws _, below_draws hb07, by show w2.heap.size ≤ w7.heap.size; omega⟩
              case measure => simp [intOf]; omega
            · obtain rfl : k = j := by omega
              have hkM : k < M.length := by have := HMl.out; omega
              have hd : M.drop k = M[k] :: [] := by
                rw [List.drop_eq_getElem_cons hkM, List.drop_eq_nil_of_le (by have := HMl.out; omega)]
              have h0l : 0 < ls.length := by have := HLN.out; omega
              have hul : M[k].l = ls[0] := by
                have e1 : (M.map Msg.l)[k]? = (ls ++ [m0.l])[k]? := by rw [HMm.out]
                rw [List.getElem?_map, List.getElem?_eq_getElem hkM, List.getElem?_append_right (by have := HLN.out; omega)] at e1
                have e2 : k - ls.length = 0 := by have := HLN.out; omega
                rw [e2] at e1
                simp only [Option.map_some, List.getElem?_cons_zero, Option.some.injEq] at e1
                have e3 : ls[0]? = some m0.l := by rw [← HK2.out, HK0.out]; rfl
                rw [List.getElem?_eq_getElem h0l] at e3
                injection e3 with e3
                rw [e1, e3]
              obtain ⟨b, off, A', c', hA, _, hcell, hy⟩ := (h.below hb06).at_ (k := 0) h0l
              injection hA with hA
              injection hA with hA1 hA2
              subst hA1 hA2
              have s1 := take_first wr _ qn B L _ N6 x hx M[k] [] (by simp only [if_true]; exact hd)
              rw [HX.out.1, HX.out.2] at s1
              have hyu := (N6.q x hx).2 M[k] (by simp only [if_true]; rw [hd]; exact List.mem_cons_self)
              generalize ls[0] = p at *
              generalize M[k] = u at *
              obtain ⟨uA, uc, ul⟩ := u
              simp only at hul hyu
              subst hul
              have S1 := Lib.hid s1
              clear s1 hd h0l hkM
              go_wp2_with fail
              refine S1.out.mono ?_
              clear S1
              rintro e w7 ⟨rfl, N7, T7, B7⟩
              have hs7 := T7.size
              have hb07 := hb06.trans (B7.mono (by omega))
              have hc7 := T7.cell hcell
              simp only [Nat.add_zero] at hc7
              have t1 := fun i => run_text (P := Try.prog) (w7.drewN i) 24 9 5 (B := w7.heap.size) (show Bytes (w7.drewN i) w7.heap.size uA ul from hyu.turn (T7.draws i) T7.size) Try.underlying24 Try.underlying5 Try.underlying9 ul.length uc rfl
              have t2 := fun i => run_text (P := Try.prog) (w7.drewN i) 24 9 5 (B := w7.heap.size) (show Bytes (w7.drewN i) w7.heap.size A' ul from hy.turn (T7.draws i) (by omega)) Try.underlying24 Try.underlying5 Try.underlying9 ul.length c' rfl
              have s2 : ∀ i, Calls Try.prog 14 #[.pointer (some ⟨qn, 0, none⟩), .int .i64 1, .int .i64 0] (w7.drewN i) fun e w'' => e = .returned (.int .i64 0) ∧ ∃ m, w'' = w7.drewN m := fun i => by
                have s := long_in (w7.drewN i) _ qn B L _ (N7.again.draws i) x hx
                rw [HX.out.1, HX.out.2] at s
                simp only [if_true, List.length_nil] at s
                exact s.mono fun _ _ ⟨q1, q2⟩ => ⟨q1, i, q2.symm⟩
              have S2 := Lib.hid s2
              have ebb : (ul == ul) = true := beq_self_eq_true _
              clear hcell hyu hy N7 s2
              unfold Msg.val
              go_wp2
              go_quiet ((go_at_call 14; exact S2.out _))
              go_wp2
              go_ret
              exact ⟨rfl, below_draws hb07⟩
theorem walk (A : Option Addr) (c : Nat) (ls : List (List UInt8)) (w : World) (_ : ls.length ≤ c) (_ : c ≤ 9223372036854775807) (h : Texts w w.heap.size A ls) (_ : ∀ x ∈ ls, x.length ≤ 9223372036854775807) :
    Calls Try.prog 7 #[.slice A ls.length c] w fun e w' => e = .returned (.bool true) ∧ Below w.heap.size w w' := by
  by_cases h0 : ls.length = 0 ∨ 7 < ls.length
  · exact walk_out A c ls.length w h0
  · exact walk_in A c ls.length ls w h rfl (by omega) (by omega)

theorem own : ownKnob Try.prog.godebug = none := by kernel_rfl
theorem laidOut : laidOutB Try.prog = true := by kernel_rfl
set_option maxRecDepth 100000 in
theorem lifted (os : Os) (started : os.Started) (H : Type) (enc : TypeId × Value → H) :
    ReturnsInHanded {} Try.checked os 7 .any (Rows.netTurnsSpec.pre6 enc Try.prog Try.f7 Rows.netTurnsRow.domain false) (Rows.netTurnsSpec.post enc Try.prog Try.f7 false true false false) := by
  refine returnsInHanded_of_change (C := Try.checked) own started (by kernel_rfl) Try.func7
    (ChangeSpec.witness6 (enc := enc) (C := Try.checked) false ⟨#[], #[.slice none 0 0], []⟩ 8 (by kernel_rfl) (by kernel_rfl) (by kernel_rfl) (by kernel_rfl)) ?_
  intro W base args ds gs before hval0 hW _ _
  have hval : ∀ (j : Nat) t v, Try.f7.params[j]? = some t → args[j]? = some v → Value.okWide Try.prog W .any base t v := hval0
  have hW' := hW
  obtain ⟨p, q, hA0, hV, rfl, _, _⟩ := hW
  have hA : DataW.TrodAll enc Try.prog W 0 (fun _ => true) true Try.f7.params.toList args.toList ds p := hA0
  rw [Try.params7] at hA hval
  obtain ⟨v0, vs0, d0, ds0, p0, q0, hargs, rfl, rfl, h0, r0⟩ := trodAll_cons hA
  obtain ⟨rfl, rfl, rfl⟩ := trodAll_nil r0
  obtain rfl : args = #[v0] := by cases args; simp_all
  obtain ⟨rfl, rfl⟩ := trodVars_none hV
  obtain ⟨a0, len0, cap0, rfl⟩ := okWide_slice Try.underlying23 (hval 0 23 v0 rfl rfl)
  have k0 := h0
  have lt0 : ∀ x ∈ p0, x.block < W.heap.size := by obtain ⟨m, hm⟩ := k0; exact DataW.trod_lt m _ _ _ hm
  obtain ⟨l0, hl0, hc0, hm0, hb0, hx0⟩ := open_texts Try.underlying23 Try.underlying24 Try.underlying5 (by kernel_rfl) (by kernel_rfl) h0
  subst hl0
  clear hA0 hval0
  refine (walk a0 cap0 l0 W hc0 hm0 hb0 hx0).mono fun e W' ⟨he, bel⟩ => ?_
  subst he
  exact ⟨_, rfl, _, _, _, [], _, [], hW', trodAll_mk1 (shut_bool Try.underlying4 _), (trodAll_cons_mk (Below.trod laidOut (by kernel_rfl) (of_decide_eq_true (by kernel_rfl)) k0 bel lt0) trodAll_mk0), rfl, bel.frame _, fun h => by cases h⟩
theorem over : Rows.netTurnsRow.holds Try.pinned (OpenSpec.ofChange Rows.netTurnsSpec) :=
  OpenClaim.holds_of_wide 7 Try.f7 rfl rfl rfl rfl rfl rfl rfl ⟨rfl, rfl, rfl, rfl, rfl⟩ rfl rfl rfl rfl rfl (by kernel_rfl) Try.func7 (by kernel_rfl)
    (of_decide_eq_true (by kernel_rfl)) (by unfold Func.isWrapper; first | (rw [if_pos (by decide +kernel)]; kernel_rfl) | (rw [if_neg (by decide +kernel)]; exact ⟨rfl, rfl⟩))
    (fun os started H enc _ => lifted os started H enc)
theorem proved : Rows.NetTurnsSaid := over
end Go.Proofs.Ytbniaojldjhemaa.netTurns
