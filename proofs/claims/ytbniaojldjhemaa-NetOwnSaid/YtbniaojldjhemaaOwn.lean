/- NetOwn: for every []byte and byte the law returns true, and the bytes read behind the call as before. No conditions. -/
import Derived.Test.YtbniaojldjhemaaAwake
namespace Go.Proofs.Ytbniaojldjhemaa.netOwn
open Go.Conc Go.ChangeShapes Go.WideShapes Go.ChangeAt Go.RowKit

theorem own_turn {w w' : World} {base e n : Nat} {v : Value} {xs : List Value} (h : w.ownsRow base e 1 v n xs) (t : Turns w w') : w'.ownsRow base e 1 v n xs := by
  refine ⟨h.1, ?_⟩
  rcases h.2 with hn | ⟨g, cap, cur, hv, hg, hh, rest⟩
  · exact .inl hn
  · exact .inr ⟨g, cap, cur, hv, hg, t.block _ _ hh rfl, rest⟩
/-- A cell of a row of bytes is written: the net stays, if its messages do. -/
theorem NetAt.put {w : World} {base qn B : Nat} {L : List Link} {Q : Nat → List Msg} (h : NetAt w base qn B L Q) {g i : Nat} {cs : Array Value} (u : Value) (hg : w.heap[g]? = some (.cells cs 5 (0, 0)))
    (hm : ∀ x ∈ L, ∀ m ∈ Q x.c, Bytes (w.setCell ⟨g, i, none⟩ u) (w.setCell ⟨g, i, none⟩ u).heap.size m.A m.l) : NetAt (w.setCell ⟨g, i, none⟩ u) base qn B L Q := by
  have keep : ∀ (b : Nat) (o : Obj), w.heap[b]? = some o → (∀ cs', o ≠ .cells cs' 5 (0, 0)) → (w.setCell ⟨g, i, none⟩ u).heap[b]? = some o := fun b o hb hne => by
    have hne' : b ≠ g := fun e => by
      rw [e, hg] at hb
      injection hb with hb
      exact hne cs hb.symm
    exact (Below.heap_setCell w ⟨g, i, none⟩ u b hne').trans hb
  refine ⟨keep _ _ h.blk (fun cs' e => by injection e with _ e; cases e), ?_, h.fair, h.apart, h.lo, fun x hx => ?_⟩
  · obtain ⟨es, h1, h2⟩ := h.map
    exact ⟨es, keep _ _ h1 (fun cs' e => by cases e), h2⟩
  · obtain ⟨⟨s, r, hc⟩, _⟩ := h.q x hx
    exact ⟨⟨s, r, keep _ _ hc (fun cs' e => by cases e)⟩, hm x hx⟩
theorem const_two (w : World) (m : Nat × Nat) : TreeAt (w.alloc (.cells #[.int .i64 (-1), .int .i64 0] 3 m)) (w.heap.size + 1) (some ⟨w.heap.size, 0, none⟩) 2 p0 := by
  refine ⟨by omega, by omega, fun k h1 h2 => by unfold p0; omega, _, _, rfl, by omega, ?_, fun k h1 h2 => ?_⟩
  · rw [World.cell?_alloc_mark]
    rfl
  · rw [World.cell?_alloc_mark]
    match k, h1, h2 with
    | 1, _, _ => rfl

set_option maxRecDepth 100000 in
theorem walk_out (A : Option Addr) (c n : Nat) (by_ : Int) (w : World) (h : n = 0 ∨ 200 < n) :
    Calls Try.prog 6 #[.slice A n c, .int .u8 by_] w fun e w' => e = .returned (.bool true) ∧ Below w.heap.size w w' := by
  rcases h with rfl | h
  · go_enter Try.func6, Try.ntmps6
    go_wp2_with fail
    refine (awake_any _).mono ?_
    rintro e w1 ⟨rfl, hb1⟩
    go_wp2_with fail
    go_ret
    exact ⟨rfl, hb1⟩
  · have e0 : ((n : Int) == 0) = false := by rw [beq_eq_false_iff_ne]; omega
    go_enter Try.func6, Try.ntmps6
    go_wp2_with fail
    refine (awake_any _).mono ?_
    rintro e w1 ⟨rfl, hb1⟩
    go_wp2_with fail
    go_ret
    exact ⟨rfl, hb1⟩

set_option maxRecDepth 100000 in
set_option maxHeartbeats 4000000 in
theorem walk_in (A : Option Addr) (c : Nat) (l : List UInt8) (by_ : Int) (w : World) (h : Bytes w w.heap.size A l) (h0 : 0 < l.length) (h2 : l.length ≤ 200) :
    Calls Try.prog 6 #[.slice A l.length c, .int .u8 by_] w fun e w' => e = .returned (.bool true) ∧ Below w.heap.size w w' := by
  obtain ⟨i0, hi0, hz0, hz1, hz2⟩ := info_parts Try.info5
  have e0 : ((l.length : Int) == 0) = false := by rw [beq_eq_false_iff_ne]; omega
  have h0' : (0 : Int) < (l.length : Int) := by omega
  go_enter Try.func6, Try.ntmps6
  go_wp2_with fail
  refine (awake_any _).mono ?_
  rintro e w1 ⟨rfl, hb1⟩
  have HT := const_two w1 (0, 0)
  go_wp2_with fail
  refine (new_ok _ _ _ _ _ (HT.more (by simp))).mono ?_
  rintro e w2 ⟨qn, B, L, rfl, N2, HL, hb2⟩
  simp only [World.size_alloc] at N2
  obtain ⟨_, ⟨x, hx, hxf, hxt⟩⟩ := HL.all 1 (by omega) (by omega)
  simp only [p0] at hxf
  have hxf' : x.f = 0 := by simpa using hxf
  have hxt' : x.t = 1 := by simpa using hxt
  have HX := Lib.hid (And.intro hxf' hxt')
  clear hxf hxt hxf' hxt' HL HT
  have hs2 := hb2.size
  simp only [World.size_alloc] at hs2
  have hb02 : Below w.heap.size w w2 := (hb1.alloc hb1.size _).trans (hb2.mono (by simp; have := hb1.size; omega))
  have hs02 := hb02.size
  have hs01 := hb1.size
  have hy2 := h.below hb02
  have ht2 := run_text (P := Try.prog) w2 24 9 5 hy2 Try.underlying24 Try.underlying5 Try.underlying9 l.length c rfl
  have hown := World.ownsRow_made (e := 5) (size := 1) w2 #[] 0 (Nat.le_refl _) (Nat.zero_le _) rfl
  go_wp2_with (at_builtin; (refine wpList_append_from _ rfl (.tmp 36) (.tmp 37) 24 rfl w2.heap.size 5 i0 _ 1 Try.underlying24 hi0 hz0 hz1 hz2 rfl _ 0 [] rfl hown w.heap.size A l.length c (bytesV l) rfl (bytesV_length l) (hy2.alloc hs02 _) (bytesV_one l) (by unfold maxLen; omega) (by omega) (by simp) ?_; intro A3 c3 w3 hown3 hgrow3 hat3; have hb3 := ((Below.refl w2.heap.size w2).alloc (Nat.le_refl _) (.cells #[] 5)).trans (below_append hown hgrow3 (Nat.le_refl _) (by simp)); simp only [Nat.zero_add, List.nil_append] at hown3))
  have N3 := N2.below hb3
  have hb03 := hb02.trans (hb3.mono hs02)
  have hs3 := hb3.size
  obtain ⟨g3, rfl, hg3, hgs3, hnc3, hcell3, hfree3⟩ := own_addr hown3 h0
  clear ht2 hy2 hgrow3 hat3 N2 hown
  have s1 := send_room w3 _ qn B L _ N3 x hx _ c3 w3.heap.size l (Lies.of_own hown3) (Nat.le_refl _) (by omega) (by omega) (by simp)
  rw [HX.out.1, HX.out.2] at s1
  have S1 := Lib.hid s1
  clear s1
  refine S1.out.mono ?_
  clear S1
  rintro e w4 ⟨rfl, m1, hm1, ho4, N4, T4, B4⟩
  have hb04 := hb03.trans (B4.mono (by omega))
  have hs4 := T4.size
  obtain ⟨A1, c1, l1⟩ := m1
  simp only at hm1
  have hm1' := hm1.symm
  subst hm1'
  clear hm1
  simp only [List.nil_append] at N4
  have s2 := twice_ok w4 _ qn B L _ N4 x hx ⟨A1, c1, l⟩ [] (by simp) (by simp) (by omega) (by simp only; omega)
  rw [HX.out.1, HX.out.2] at s2
  have S2 := Lib.hid s2
  clear s2
  go_wp2_with fail
  refine S2.out.mono ?_
  clear S2
  rintro e w5 ⟨rfl, m2, hm2, ho5, N5, T5, B5⟩
  have hb05 := hb04.trans (B5.mono (by omega))
  have hs5 := T5.size
  obtain ⟨A2, c2, l2⟩ := m2
  simp only at hm2
  have hm2' := hm2.symm
  subst hm2'
  clear hm2
  have N5' := N5.again
  simp only [List.nil_append] at N5'
  unfold Msg.val at ho4 ho5
  simp only at ho4 ho5
  have ho15 := own_turn ho4 T5
  have ho35 := own_turn (own_turn hown3 T4) T5
  obtain ⟨g1, rfl, hg1, hgs1, hnc1, _, _⟩ := own_addr ho15 h0
  obtain ⟨g2, rfl, hg2, hgs2, hnc2, _, _⟩ := own_addr ho5 h0
  obtain ⟨g3', hgg, _, hgs3', _, hcell35, hfree35⟩ := own_addr ho35 h0
  obtain rfl : g3 = g3' := by injection hgg with e; injection e
  have hg14 : g1 < w4.heap.size := (ho4.lt g1 rfl).2
  have cm0 := hcell35 0 _ (bytesV_get l h0)
  have fm0 := hfree35 0
  generalize hx0 : (l[0].toNat : Int) = x0 at cm0
  clear hx0 hcell35 hfree35 hcell3 hfree3 N3 N4 N5 hown3 ho4
  have hne1 : g3 ≠ g1 := by omega
  have hne2 : g3 ≠ g2 := by omega
  have hput : ∀ u, NetAt (w5.setCell ⟨g3, 0, none⟩ u) (w1.heap.size + 1) qn B L (fun k => if k = x.c then [⟨some ⟨g1, 0, none⟩, c1, l⟩, ⟨some ⟨g2, 0, none⟩, c2, l⟩] else []) := fun u => by
    obtain ⟨cs, hcs⟩ : ∃ cs, w5.heap[g3]? = some (.cells cs 5 (0, 0)) := by
      rcases ho35.2 with ⟨hv, _⟩ | ⟨g, cap, cur, hv, _, hh, _⟩
      · cases hv
      · injection hv with e
        injection e with e
        injection e with e
        rw [e]
        exact ⟨cur, hh⟩
    have o1 := own_far ho15 (p := ⟨g3, 0, none⟩) (fun e => hne1 (by injection e)) u
    have o2 := own_far ho5 (p := ⟨g3, 0, none⟩) (fun e => hne2 (by injection e)) u
    refine NetAt.put N5' u hcs (fun y hy m hm => ?_)
    by_cases e : y.c = x.c
    · rw [if_pos e] at hm
      simp only [List.mem_cons, List.not_mem_nil, or_false] at hm
      rcases hm with rfl | rfl
      · exact Lies.of_own o1
      · exact Lies.of_own o2
    · rw [if_neg e] at hm
      simp at hm
  have HPUT := Lib.hid hput
  have ho15' : ∀ u, (w5.setCell ⟨g3, 0, none⟩ u).ownsRow w3.heap.size 5 1 (.slice (some ⟨g1, 0, none⟩) l.length c1) l.length (bytesV l) := fun u => own_far ho15 (p := ⟨g3, 0, none⟩) (fun e => hne1 (by injection e)) u
  have ho25' : ∀ u, (w5.setCell ⟨g3, 0, none⟩ u).ownsRow w4.heap.size 5 1 (.slice (some ⟨g2, 0, none⟩) l.length c2) l.length (bytesV l) := fun u => own_far ho5 (p := ⟨g3, 0, none⟩) (fun e => hne2 (by injection e)) u
  have HO1 := Lib.hid ho15'
  have HO2 := Lib.hid ho25'
  have hb05' : ∀ u, Below w.heap.size w (w5.setCell ⟨g3, 0, none⟩ u) := fun u => hb05.setCell (p := ⟨g3, 0, none⟩) (by show w.heap.size ≤ g3; omega) u
  have HB := Lib.hid hb05'
  clear hput ho15' ho25' hb05' N5' ho15 ho5 ho35 hb05 hb04 hb03 hb02
  have s3 : ∀ u, Calls Try.prog 15 #[.pointer (some ⟨qn, 0, none⟩), .int .i64 0, .int .i64 1] (w5.setCell ⟨g3, 0, none⟩ u) fun e w' => e = .returned (.tuple #[.slice (some ⟨g1, 0, none⟩) l.length c1, .int .i64 0]) ∧
      NetAt w' (w1.heap.size + 1) qn B L (fun k => if k = x.c then [⟨some ⟨g2, 0, none⟩, c2, l⟩] else []) ∧ Turns (w5.setCell ⟨g3, 0, none⟩ u) w' ∧ Below (w1.heap.size + 1) (w5.setCell ⟨g3, 0, none⟩ u) w' := fun u => by
    have s := take_first _ _ qn B L _ (HPUT.out u) x hx ⟨some ⟨g1, 0, none⟩, c1, l⟩ [⟨some ⟨g2, 0, none⟩, c2, l⟩] (by simp)
    rw [HX.out.1, HX.out.2] at s
    exact s.mono fun _ _ ⟨q1, q2, q3, q4⟩ => ⟨q1, q2.again, q3, q4⟩
  have S3 := Lib.hid s3
  clear s3
  go_wp2_with fail
  refine (S3.out _).mono ?_
  clear S3
  rintro e w6 ⟨rfl, N6, T6, B6⟩
  have o16 := own_turn (HO1.out _) T6
  have o26 := own_turn (HO2.out _) T6
  have hb06 := (HB.out _).trans (B6.mono (by omega))
  have hs06 := hb06.size
  have t6 := run_text (P := Try.prog) w6 24 9 5 (Lies.of_own o16) Try.underlying24 Try.underlying5 Try.underlying9 l.length c1 rfl
  obtain ⟨g1', hgg1, _, hgs16, _, hcell16, hfree16⟩ := own_addr o16 h0
  obtain rfl : g1 = g1' := by injection hgg1 with e; injection e
  have cn0 := hcell16 0 _ (bytesV_get l h0)
  have fn0 := hfree16 0
  generalize hx1 : (l[0].toNat : Int) = x1 at cn0
  have hne12 : g1 ≠ g2 := by omega
  have hput2 : ∀ u, NetAt (w6.setCell ⟨g1, 0, none⟩ u) (w1.heap.size + 1) qn B L (fun k => if k = x.c then [⟨some ⟨g2, 0, none⟩, c2, l⟩] else []) := fun u => by
    obtain ⟨cs, hcs⟩ : ∃ cs, w6.heap[g1]? = some (.cells cs 5 (0, 0)) := by
      rcases o16.2 with ⟨hv, _⟩ | ⟨g, cap, cur, hv, _, hh, _⟩
      · cases hv
      · injection hv with e
        injection e with e
        injection e with e
        rw [e]
        exact ⟨cur, hh⟩
    have o2 := own_far o26 (p := ⟨g1, 0, none⟩) (fun e => hne12 (by injection e)) u
    refine NetAt.put N6 u hcs (fun y hy m hm => ?_)
    by_cases e : y.c = x.c
    · rw [if_pos e] at hm
      rw [List.mem_singleton] at hm
      subst hm
      exact Lies.of_own o2
    · rw [if_neg e] at hm
      simp at hm
  have s4 : ∀ u, Calls Try.prog 15 #[.pointer (some ⟨qn, 0, none⟩), .int .i64 0, .int .i64 1] (w6.setCell ⟨g1, 0, none⟩ u) fun e w' => e = .returned (.tuple #[.slice (some ⟨g2, 0, none⟩) l.length c2, .int .i64 0]) ∧
      Turns (w6.setCell ⟨g1, 0, none⟩ u) w' ∧ Below (w1.heap.size + 1) (w6.setCell ⟨g1, 0, none⟩ u) w' := fun u => by
    have s := take_first _ _ qn B L _ (hput2 u) x hx ⟨some ⟨g2, 0, none⟩, c2, l⟩ [] (by simp)
    rw [HX.out.1, HX.out.2] at s
    exact s.mono fun _ _ ⟨q1, q2, q3, q4⟩ => ⟨q1, q3, q4⟩
  have S4 := Lib.hid s4
  have ho26' : ∀ u, (w6.setCell ⟨g1, 0, none⟩ u).ownsRow w4.heap.size 5 1 (.slice (some ⟨g2, 0, none⟩) l.length c2) l.length (bytesV l) := fun u => own_far o26 (p := ⟨g1, 0, none⟩) (fun e => hne12 (by injection e)) u
  have HO26 := Lib.hid ho26'
  have hb06' : ∀ u, Below w.heap.size w (w6.setCell ⟨g1, 0, none⟩ u) := fun u => hb06.setCell (p := ⟨g1, 0, none⟩) (by show w.heap.size ≤ g1; omega) u
  have HB6 := Lib.hid hb06'
  clear s4 hput2 ho26' hb06' hcell16 hfree16 hx1 o16 o26 N6
  go_wp2_with fail
  refine (S4.out _).mono ?_
  clear S4
  rintro e w7 ⟨rfl, T7, B7⟩
  have o27 := own_turn (HO26.out _) T7
  have hb07 := (HB6.out _).trans (B7.mono (by omega))
  have t7 := run_text (P := Try.prog) w7 24 9 5 (Lies.of_own o27) Try.underlying24 Try.underlying5 Try.underlying9 l.length c2 rfl
  go_wp2_with fail
  go_ret
  exact ⟨rfl, hb07⟩
theorem walk (A : Option Addr) (c : Nat) (l : List UInt8) (by_ : Int) (w : World) (_ : l.length ≤ c) (_ : c ≤ 9223372036854775807) (h : Bytes w w.heap.size A l) (_ : (Lit.int .u8 by_).wf = true) :
    Calls Try.prog 6 #[.slice A l.length c, .int .u8 by_] w fun e w' => e = .returned (.bool true) ∧ Below w.heap.size w w' := by
  by_cases h0 : l.length = 0 ∨ 200 < l.length
  · exact walk_out A c l.length by_ w h0
  · exact walk_in A c l by_ w h (by omega) (by omega)

theorem own : ownKnob Try.prog.godebug = none := by kernel_rfl
theorem laidOut : laidOutB Try.prog = true := by kernel_rfl
set_option maxRecDepth 100000 in
theorem lifted (os : Os) (started : os.Started) (H : Type) (enc : TypeId × Value → H) :
    ReturnsInHanded {} Try.checked os 6 .any (Rows.netOwnSpec.pre6 enc Try.prog Try.f6 Rows.netOwnRow.domain false) (Rows.netOwnSpec.post enc Try.prog Try.f6 false true false false) := by
  refine returnsInHanded_of_change (C := Try.checked) own started (by kernel_rfl) Try.func6
    (ChangeSpec.witness6 (enc := enc) (C := Try.checked) false ⟨#[], #[.slice none 0 0, .int .u8 0], []⟩ 8 (by kernel_rfl) (by kernel_rfl) (by kernel_rfl) (by kernel_rfl)) ?_
  intro W base args ds gs before hval0 hW _ _
  have hval : ∀ (j : Nat) t v, Try.f6.params[j]? = some t → args[j]? = some v → Value.okWide Try.prog W .any base t v := hval0
  have hW' := hW
  obtain ⟨p, q, hA0, hV, rfl, _, _⟩ := hW
  have hA : DataW.TrodAll enc Try.prog W 0 (fun _ => true) true Try.f6.params.toList args.toList ds p := hA0
  rw [Try.params6] at hA hval
  obtain ⟨v0, vs0, d0, ds0, p0, q0, hargs, rfl, rfl, h0, r0⟩ := trodAll_cons hA
  obtain ⟨v1, vs1, d1, ds1, p1, q1, rfl, rfl, rfl, h1, r1⟩ := trodAll_cons r0
  obtain ⟨rfl, rfl, rfl⟩ := trodAll_nil r1
  obtain rfl : args = #[v0, v1] := by cases args; simp_all
  obtain ⟨rfl, rfl⟩ := trodVars_none hV
  obtain ⟨a0, len0, cap0, rfl⟩ := okWide_slice Try.underlying24 (hval 0 24 v0 rfl rfl)
  have k0 := h0
  have lt0 : ∀ x ∈ p0, x.block < W.heap.size := by obtain ⟨m, hm⟩ := k0; exact DataW.trod_lt m _ _ _ hm
  obtain ⟨l0, hl0, hc0, hm0, hb0⟩ := open_bytes Try.underlying24 Try.underlying5 (by kernel_rfl) h0
  subst hl0
  obtain ⟨a1, rfl, rfl, rfl, w1⟩ := open_int Try.underlying5 (hval 1 5 v1 rfl rfl) h1
  clear hA0 hval0
  refine (walk a0 cap0 l0 a1 W hc0 hm0 hb0 w1).mono fun e W' ⟨he, bel⟩ => ?_
  subst he
  exact ⟨_, rfl, _, _, _, [], _, [], hW', trodAll_mk1 (shut_bool Try.underlying4 _), (trodAll_cons_mk (Below.trod laidOut (by kernel_rfl) (of_decide_eq_true (by kernel_rfl)) k0 bel lt0) (trodAll_cons_mk (shut_int Try.underlying5 w1) trodAll_mk0)), rfl, bel.frame _, fun h => by cases h⟩
theorem over : Rows.netOwnRow.holds Try.pinned (OpenSpec.ofChange Rows.netOwnSpec) :=
  OpenClaim.holds_of_wide 6 Try.f6 rfl rfl rfl rfl rfl rfl rfl ⟨rfl, rfl, rfl, rfl, rfl⟩ rfl rfl rfl rfl rfl (by kernel_rfl) Try.func6 (by kernel_rfl)
    (of_decide_eq_true (by kernel_rfl)) (by unfold Func.isWrapper; first | (rw [if_pos (by decide +kernel)]; kernel_rfl) | (rw [if_neg (by decide +kernel)]; exact ⟨rfl, rfl⟩))
    (fun os started H enc _ => lifted os started H enc)
theorem proved : Rows.NetOwnSaid := over
end Go.Proofs.Ytbniaojldjhemaa.netOwn
