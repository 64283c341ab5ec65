/- TreeLong: for every []int and two ints the law returns true, and the []int reads behind the call as before. No conditions. -/
import Derived.Test.YtofgclmibemniaaOpen
namespace Go.Proofs.Ytofgclmibemniaa.treeLong
open Go.ChangeShapes Go.WideShapes Go.ChangeAt Go.RowKit

/-- The law's head: parents that are too many, or no tree. -/
theorem walk_no (A : Option Addr) (cap n : Nat) (f : Nat → Int) (a b : Int) (w : World) (hm : n ≤ 9223372036854775807) (h : Arr w w.heap.size A n f) (ht : 100 < n ∨ ¬ IsTree n f) :
    Calls Try.prog 6 #[.slice A n cap, .int .i64 a, .int .i64 b] w fun e w' => e = .returned (.bool true) ∧ Below w.heap.size w w' := by
  rcases (show 100 < n ∨ (n ≤ 100 ∧ ¬ IsTree n f) by by_cases h : 100 < n; exact .inl h; exact .inr ⟨by omega, ht.resolve_left h⟩) with h1 | ⟨h1, h2⟩
  all_goals
    clear ht
    go_enter Try.func6, Try.ntmps6
    go_wp2_with fail
    refine (awake_any _).mono ?_
    rintro e w1 ⟨rfl, hb1⟩
    go_wp2_with (go_at_call 10; refine (check_bad A cap n _ f w1 (h.below hb1) hm h2).mono ?_; rintro e w2 ⟨rfl, rfl⟩)
    go_ret
    exact ⟨rfl, hb1⟩
/-- No such broker. -/
theorem walk_out (A : Option Addr) (cap n : Nat) (p : Nat → Nat) (a b : Int) (w : World) (ht : TreeAt w w.heap.size A n p) (h : (a < 0 ∨ (n : Int) ≤ a) ∨ (b < 0 ∨ (n : Int) ≤ b)) :
    Calls Try.prog 6 #[.slice A n cap, .int .i64 a, .int .i64 b] w fun e w' => e = .returned (.bool true) ∧ Below w.heap.size w w' := by
  have hn := ht.2.1
  have HT := Lib.hid ht
  rcases (show a < 0 ∨ (0 ≤ a ∧ b < 0) ∨ (0 ≤ a ∧ 0 ≤ b ∧ (n : Int) ≤ a) ∨ (0 ≤ a ∧ 0 ≤ b ∧ a < (n : Int) ∧ (n : Int) ≤ b) by omega) with h1 | ⟨h1, h2⟩ | ⟨h1, h2, h3⟩ | ⟨h1, h2, h3, h4⟩
  all_goals
    clear h ht
    go_enter Try.func6, Try.ntmps6
    go_wp2_with fail
    refine (awake_any _).mono ?_
    rintro e w1 ⟨rfl, hb1⟩
    go_wp2_with (go_at_call 10; refine (check_ok A cap n _ p w1 (HT.out.below hb1)).mono ?_; rintro e w2 ⟨rfl, rfl⟩)
    go_ret
    exact ⟨rfl, hb1⟩
theorem dep_lt (p : Nat → Nat) {x t : Nat} (h : t ∈ anc p x) (hne : x ≠ t) : dep p t < dep p x := by
  obtain ⟨X, hX, _⟩ := anc_split p x t h
  have hl := congrArg List.length hX
  rw [List.length_append, anc_length, anc_length] at hl
  cases X with
  | nil =>
    obtain ⟨u, hu⟩ := anc_head p x
    obtain ⟨v, hv⟩ := anc_head p t
    rw [hu, hv] at hX
    injection hX with h1 _
    exact absurd h1 hne
  | cons y X =>
    simp only [List.length_cons] at hl
    omega
theorem way_high (p : Nat → Nat) (a b : Nat) {h : Nat} (hm : h ∈ way p a b) (hall : ∀ x ∈ way p a b, dep p h ≤ dep p x) : h = top p a b := by
  obtain ⟨h1, h2, _⟩ := top_spec p a b
  have ht : top p a b ∈ way p a b := by unfold way; simp
  have hle := hall _ ht
  have key : ∀ c, h ∈ low p c (top p a b) → top p a b ∈ anc p c → h = top p a b := fun c hc htc => by
    obtain ⟨k1, k2⟩ := low_lt p h hc
    have := dep_lt p (anc_chain p k2 htc (by omega)) (by omega)
    omega
  unfold way at hm
  rcases List.mem_append.1 hm with h3 | h3
  · exact key a h3 h1
  · rcases List.mem_cons.1 h3 with h3 | h3
    · exact h3
    · exact key b (List.mem_reverse.1 h3) h2

set_option maxHeartbeats 4000000 in
theorem walk_yes (A : Option Addr) (cap n : Nat) (p : Nat → Nat) (a b : Nat) (w : World) (ht : TreeAt w w.heap.size A n p) (ha : a < n) (hb : b < n) :
    Calls Try.prog 6 #[.slice A n cap, .int .i64 a, .int .i64 b] w fun e w' => e = .returned (.bool true) ∧ Below w.heap.size w w' := by
  have hn := ht.2.1
  have g1 : decide ((100 : Int) < (n : Int)) = false := by simp; omega
  have g2 : decide ((a : Int) < 0) = false := by simp
  have g3 : decide ((b : Int) < 0) = false := by simp
  have g4 : decide ((n : Int) ≤ (a : Int)) = false := by simp; omega
  have g5 : decide ((n : Int) ≤ (b : Int)) = false := by simp; omega
  have HT := Lib.hid ht
  clear ht
  go_enter Try.func6, Try.ntmps6
  go_wp2_with fail
  refine (awake_any _).mono ?_
  rintro e w1 ⟨rfl, hb1⟩
  go_wp2_with fail
  refine (check_ok A cap n _ p w1 (HT.out.below hb1)).mono ?_
  rintro e w2 ⟨rfl, rfl⟩
  go_wp2_with fail
  refine (way_any A cap n p w1 ((HT.out.below hb1).more hb1.size) a b ha hb).mono ?_
  rintro e w3 ⟨A3, c3, rfl, ho3, hb3⟩
  have hb13 := hb1.trans (hb3.mono hb1.size)
  have hT3 := Lib.hid (HT.out.below hb13)
  have hle := Lib.hid (way_le p a b n ha hb)
  obtain ⟨W, hW⟩ : ∃ W, W = way p a b := ⟨_, rfl⟩
  rw [← hW] at ho3 hle ⊢
  have HW := Lib.hid hW
  have hl0 : 0 < W.length := by
    obtain ⟨t, ht⟩ := way_head p a b
    rw [hW, ht]
    simp
  have hL31 : W.length ≤ 40 := by
    have h := way_length p a b
    have h1 := dep_le p a
    have h2 := dep_le p b
    rw [hW]
    omega
  obtain ⟨g, rfl, hg, hgs, hnc, hcell, hfree⟩ := own_addr ho3 hl0
  have hcell' : ∀ j, j < W.length → w3.cell? ⟨g, j, none⟩ = some (.int .i64 ((W[j]?.getD 0 : Nat) : Int)) := fun j hj => hcell j _ (natsV_get W hj)
  have HCELL := Lib.hid hcell'
  have c0 := hcell' 0 hl0
  have hl0' : (0 : Int) < (W.length : Int) := by omega
  have hmem : ∀ j, j < W.length → W[j]?.getD 0 ∈ W := fun j hj => by rw [List.getElem?_eq_getElem hj]; exact List.getElem_mem hj
  have HMEM := Lib.hid hmem
  have hm0 := Lib.hid (hmem 0 hl0)
  clear hcell hfree hcell' hmem hW hnc ho3
  generalize hLL : W.length = L at *
  have HLL := Lib.hid hLL
  clear hLL
  have g6 : ((L : Int) == 0) = false := by rw [beq_eq_false_iff_ne]; omega
  generalize W[0]?.getD 0 = x0 at *
  go_wp2_with fail
  go_loopw [10, 11] (fun h_ i_ wr => ∃ h i : Nat, h_ = .int .i64 h ∧ i_ = .int .i64 i ∧ h < n ∧ i ≤ L ∧ Hid (h ∈ W) ∧ Hid (∀ k, k < i → dep p h ≤ dep p (W[k]?.getD 0)) ∧ wr = w3) (fun _ i _ => L - (intOf i).toNat)
  case atStart => exact ⟨x0, 0, rfl, rfl, hle.out _ hm0.out, by omega, hm0, fun k hk => by omega, rfl⟩
  case round =>
    obtain ⟨h, i, rfl, rfl, hh, hi, HM, HA, rfl⟩ := hrel
    by_cases hlt : i < L
    · have ci := HCELL.out i hlt
      have hx := hle.out _ (HMEM.out i hlt)
      have HX := Lib.hid (HMEM.out i hlt)
      have hlt' : (i : Int) < (L : Int) := by omega
      by_cases hd : dep p (W[i]?.getD 0) < dep p h
      · have HA2 : Hid (∀ k, k < i + 1 → dep p (W[i]?.getD 0) ≤ dep p (W[k]?.getD 0)) := fun k hk => by
          by_cases e : k = i
          · rw [e]; exact Nat.le_refl _
          · have := HA.out k (by omega)
            omega
        clear HA
        have hd' : decide (dep p (W[i]?.getD 0) < dep p h) = true := by simp; exact hd
        clear hd
        generalize W[i]?.getD 0 = x at *
        go_wp2_with fail
        refine (depth_any _ cap n _ p wr hT3.out x hx).mono ?_
        rintro e w4 ⟨rfl, rfl⟩
        go_wp2_with fail
        refine (depth_any _ cap n _ p wr hT3.out h hh).mono ?_
        rintro e w4 ⟨rfl, rfl⟩
        go_wp2_with fail
        go_roundw
        case rel => exact ⟨x, i + 1, rfl, by go_num, hx, by omega, HX, HA2, trivial⟩
        case measure => simp [intOf]; omega
      · have HA2 : Hid (∀ k, k < i + 1 → dep p h ≤ dep p (W[k]?.getD 0)) := fun k hk => by
          by_cases e : k = i
          · rw [e]; omega
          · exact HA.out k (by omega)
        clear HA
        have hd' : decide (dep p (W[i]?.getD 0) < dep p h) = false := by simp; omega
        clear hd
        generalize W[i]?.getD 0 = x at *
        go_wp2_with fail
        refine (depth_any _ cap n _ p wr hT3.out x hx).mono ?_
        rintro e w4 ⟨rfl, rfl⟩
        go_wp2_with fail
        refine (depth_any _ cap n _ p wr hT3.out h hh).mono ?_
        rintro e w4 ⟨rfl, rfl⟩
        go_wp2_with fail
        go_roundw
        case rel => exact ⟨h, i + 1, rfl, by go_num, hh, by omega, HM, HA2, trivial⟩
        case measure => simp [intOf]; omega
    · have htop : h = top p a b := way_high p a b (by rw [← HW.out]; exact HM.out) (fun x hx => by
        rw [← HW.out] at hx
        obtain ⟨k, hk, hkx⟩ := List.getElem_of_mem hx
        have := HA.out k (by have := HLL.out; omega)
        rw [List.getElem?_eq_getElem hk] at this
        rw [← hkx]
        exact this)
      obtain ⟨t1, t2, _⟩ := top_spec p a b
      have u1 : upB p h a = true := by rw [upB_iff, htop]; exact t1
      have u2 : upB p h b = true := by rw [upB_iff, htop]; exact t2
      have hwl := way_length p a b
      rw [← htop, ← HW.out, HLL.out] at hwl
      have d1 := dep_le p a
      have d2 := dep_le p b
      have d3 := dep_le p h
      have e1 : ((L : Int) == (dep p a : Int) + (dep p b : Int) - 2 * (dep p h : Int) + 1) = true := by rw [beq_iff_eq]; omega
      have hge : (L : Int) ≤ (i : Int) := by omega
      clear htop t1 t2 HA HCELL HMEM
      go_wp2_with fail
      refine (up_any _ cap n _ p wr hT3.out h a hh ha).mono ?_
      rintro e w4 ⟨rfl, rfl⟩
      go_wp2_with fail
      refine (up_any _ cap n _ p wr hT3.out h b hh hb).mono ?_
      rintro e w4 ⟨rfl, rfl⟩
      go_wp2_with fail
      refine (depth_any _ cap n _ p wr hT3.out a ha).mono ?_
      rintro e w4 ⟨rfl, rfl⟩
      go_wp2_with fail
      refine (depth_any _ cap n _ p wr hT3.out b hb).mono ?_
      rintro e w4 ⟨rfl, rfl⟩
      go_wp2_with fail
      refine (depth_any _ cap n _ p wr hT3.out h hh).mono ?_
      rintro e w4 ⟨rfl, rfl⟩
      go_wp2_with fail
      go_ret
      exact ⟨rfl, hb13⟩
theorem walk (A : Option Addr) (cap n : Nat) (f : Nat → Int) (a b : Int) (w : World) (_ : n ≤ cap) (hm : cap ≤ 9223372036854775807) (h : Arr w w.heap.size A n f) (_ : (Lit.int .i64 a).wf = true) (_ : (Lit.int .i64 b).wf = true) :
    Calls Try.prog 6 #[.slice A n cap, .int .i64 a, .int .i64 b] w fun e w' => e = .returned (.bool true) ∧ Below w.heap.size w w' := by
  by_cases ht : IsTree n f
  · by_cases ho : (a < 0 ∨ (n : Int) ≤ a) ∨ (b < 0 ∨ (n : Int) ≤ b)
    · exact walk_out A cap n _ a b w (h.tree ht) ho
    · obtain ⟨i, rfl⟩ : ∃ i : Nat, a = i := ⟨a.toNat, by omega⟩
      obtain ⟨j, rfl⟩ : ∃ j : Nat, b = j := ⟨b.toNat, by omega⟩
      exact walk_yes A cap n _ i j w (h.tree ht) (by omega) (by omega)
  · exact walk_no A cap n f a b w (by omega) h (.inr ht)

theorem own : ownKnob Try.prog.godebug = none := by kernel_rfl
theorem laidOut : laidOutB Try.prog = true := by kernel_rfl
set_option maxRecDepth 100000 in
theorem lifted (os : Os) (started : os.Started) (H : Type) (enc : TypeId × Value → H) :
    ReturnsInHanded {} Try.checked os 6 .any (Rows.treeLongSpec.pre6 enc Try.prog Try.f6 Rows.treeLongRow.domain false) (Rows.treeLongSpec.post enc Try.prog Try.f6 false true false false) := by
  refine returnsInHanded_of_change (C := Try.checked) own started (by kernel_rfl) Try.func6
    (ChangeSpec.witness6 (enc := enc) (C := Try.checked) false ⟨#[], #[.slice none 0 0, .int .i64 0, .int .i64 0], []⟩ 8 (by kernel_rfl) (by kernel_rfl) (by kernel_rfl) (by kernel_rfl)) ?_
  intro W base args ds gs before hval0 hW _ _
  have hval : ∀ (j : Nat) t v, Try.f6.params[j]? = some t → args[j]? = some v → Value.okWide Try.prog W .any base t v := hval0
  have hW' := hW
  obtain ⟨p, q, hA0, hV, rfl, _, _⟩ := hW
  have hA : DataW.TrodAll enc Try.prog W 0 (fun _ => true) true Try.f6.params.toList args.toList ds p := hA0
  rw [Try.params6] at hA hval
  obtain ⟨v0, vs0, d0, ds0, p0, q0, hargs, rfl, rfl, h0, r0⟩ := trodAll_cons hA
  obtain ⟨v1, vs1, d1, ds1, p1, q1, rfl, rfl, rfl, h1, r1⟩ := trodAll_cons r0
  obtain ⟨v2, vs2, d2, ds2, p2, q2, rfl, rfl, rfl, h2, r2⟩ := trodAll_cons r1
  obtain ⟨rfl, rfl, rfl⟩ := trodAll_nil r2
  obtain rfl : args = #[v0, v1, v2] := by cases args; simp_all
  obtain ⟨rfl, rfl⟩ := trodVars_none hV
  obtain ⟨a0, len0, cap0, rfl⟩ := okWide_slice Try.underlying23 (hval 0 23 v0 rfl rfl)
  have k0 := h0
  have lt0 : ∀ x ∈ p0, x.block < W.heap.size := by obtain ⟨m, hm⟩ := k0; exact DataW.trod_lt m _ _ _ hm
  obtain ⟨l0, hc0, hm0, hb0⟩ := open_arr Try.underlying23 Try.underlying3 (by kernel_rfl) h0
  obtain ⟨a1, rfl, rfl, rfl, w1⟩ := open_int Try.underlying3 (hval 1 3 v1 rfl rfl) h1
  obtain ⟨a2, rfl, rfl, rfl, w2⟩ := open_int Try.underlying3 (hval 2 3 v2 rfl rfl) h2
  clear hA0 hval0
  refine (walk a0 cap0 len0 l0 a1 a2 W hc0 hm0 hb0 w1 w2).mono fun e W' ⟨he, bel⟩ => ?_
  subst he
  exact ⟨_, rfl, _, _, _, [], _, [], hW', trodAll_mk1 (shut_bool Try.underlying4 _), (trodAll_cons_mk (Below.trod laidOut (by kernel_rfl) (of_decide_eq_true (by kernel_rfl)) k0 bel lt0) (trodAll_cons_mk (shut_int Try.underlying3 w1) (trodAll_cons_mk (shut_int Try.underlying3 w2) trodAll_mk0))), rfl, bel.frame _, fun h => by cases h⟩
theorem over : Rows.treeLongRow.holds Try.pinned (OpenSpec.ofChange Rows.treeLongSpec) :=
  OpenClaim.holds_of_wide 6 Try.f6 rfl rfl rfl rfl rfl rfl rfl ⟨rfl, rfl, rfl, rfl, rfl⟩ rfl rfl rfl rfl rfl (by kernel_rfl) Try.func6 (by kernel_rfl)
    (of_decide_eq_true (by kernel_rfl)) (by unfold Func.isWrapper; first | (rw [if_pos (by decide +kernel)]; kernel_rfl) | (rw [if_neg (by decide +kernel)]; exact ⟨rfl, rfl⟩))
    (fun os started H enc _ => lifted os started H enc)
theorem proved : Rows.TreeLongSaid := over
end Go.Proofs.Ytofgclmibemniaa.treeLong
