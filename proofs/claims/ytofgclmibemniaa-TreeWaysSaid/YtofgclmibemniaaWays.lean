/- TreeWays: for every []int and two ints the law returns true, and the []int reads behind the call as before. No conditions. -/
import Derived.Test.YtofgclmibemniaaOpen
namespace Go.Proofs.Ytofgclmibemniaa.treeWays
open Go.ChangeShapes Go.WideShapes Go.ChangeAt Go.RowKit

/-- What has been seen. -/
def seenC (X : List Nat) : Array Value := ((List.range 16).map fun k => Value.bool (decide (k ∈ X))).toArray
theorem seen_get (X : List Nat) {k : Nat} (h : k < 16) : (seenC X)[k]? = some (.bool (decide (k ∈ X))) := by simp [seenC, h]
theorem seen_set (X : List Nat) (x : Nat) : (seenC X).setIfInBounds x (.bool true) = seenC (X ++ [x]) := by
  apply Array.ext
  · simp [seenC]
  · intro j h1 h2
    simp only [seenC, List.getElem_toArray, List.getElem_map, List.getElem_range, List.mem_append, List.mem_singleton]
    by_cases e : x = j
    · simp [e]
    · have e' : ¬ j = x := fun h => e h.symm
      simp [e, e']
theorem way_drop (p : Nat → Nat) {n a b : Nat} (hg : Good p n) (ha : a < n) (hb : b < n) : ∀ i, i < (way p a b).length → (way p a b).drop i = way p ((way p a b)[i]?.getD 0) b := by
  intro i
  induction i with
  | zero =>
    intro _
    obtain ⟨t, ht⟩ := way_head p a b
    rw [ht]
    simp only [List.drop_zero, List.getElem?_cons_zero, Option.getD_some]
    exact ht.symm
  | succ i ih =>
    intro hi
    have hd := ih (by omega)
    have hx : (way p a b)[i]?.getD 0 < n := by
      rw [List.getElem?_eq_getElem (by omega)]
      exact way_le p a b n ha hb _ (List.getElem_mem _)
    generalize hxe : (way p a b)[i]?.getD 0 = x at *
    have hlen := congrArg List.length hd
    rw [List.length_drop] at hlen
    by_cases e : x = b
    · rw [e, way_same] at hlen
      simp at hlen
      omega
    · obtain ⟨c, hc, _, _⟩ := way_next p hg hx hb e
      rw [hc] at hd
      have h2 : (way p a b).drop (i + 1) = way p c b := by
        have := congrArg (List.drop 1) hd
        rw [List.drop_drop] at this
        simpa [Nat.add_comm] using this
      have h3 : (way p a b)[i + 1]?.getD 0 = c := by
        have h4 : (way p a b)[i + 1]? = ((way p a b).drop (i + 1))[0]? := by simp
        obtain ⟨t, ht⟩ := way_head p c b
        rw [h4, h2, ht]
        rfl
      rw [h3]
      exact h2
theorem cell_far {w : World} {q i g o : Nat} (u : Value) (h : g ≠ q) : (w.setCell ⟨q, i, none⟩ u).cell? ⟨g, o, none⟩ = w.cell? ⟨g, o, none⟩ := World.cell?_of_block (w := w) (Below.heap_setCell w ⟨q, i, none⟩ u g h)

set_option maxRecDepth 100000 in
set_option maxHeartbeats 1000000 in
/-- The law's head: parents that are too many, or no tree. -/
theorem walk_no (A : Option Addr) (cap n : Nat) (f : Nat → Int) (a b : Int) (w : World) (hm : n ≤ 9223372036854775807) (h : Arr w w.heap.size A n f) (ht : 100 < n ∨ ¬ IsTree n f) :
    Calls Try.prog 4 #[.slice A n cap, .int .i64 a, .int .i64 b] w fun e w' => e = .returned (.bool true) ∧ Below w.heap.size w w' := by
  rcases (show 100 < n ∨ (n ≤ 100 ∧ ¬ IsTree n f) by by_cases h : 100 < n; exact .inl h; exact .inr ⟨by omega, ht.resolve_left h⟩) with h1 | ⟨h1, h2⟩
  all_goals
    clear ht
    go_enter Try.func4, Try.ntmps4
    go_wp2_with fail
    refine (awake_any _).mono ?_
    rintro e w1 ⟨rfl, hb1⟩
    go_wp2_with (go_at_call 10; refine (check_bad A cap n _ f w1 (h.below hb1) hm h2).mono ?_; rintro e w2 ⟨rfl, rfl⟩)
    go_ret
    exact ⟨rfl, hb1⟩
set_option maxRecDepth 100000 in
set_option maxHeartbeats 1000000 in
/-- No such broker. -/
theorem walk_out (A : Option Addr) (cap n : Nat) (p : Nat → Nat) (a b : Int) (w : World) (ht : TreeAt w w.heap.size A n p) (h : (a < 0 ∨ (n : Int) ≤ a) ∨ (b < 0 ∨ (n : Int) ≤ b)) :
    Calls Try.prog 4 #[.slice A n cap, .int .i64 a, .int .i64 b] w fun e w' => e = .returned (.bool true) ∧ Below w.heap.size w w' := by
  have hn := ht.2.1
  have HT := Lib.hid ht
  have HH := Lib.hid h
  have HH2 := Lib.hid h.symm
  rcases (show a < 0 ∨ (0 ≤ a ∧ b < 0) ∨ (0 ≤ a ∧ 0 ≤ b ∧ (n : Int) ≤ a) ∨ (0 ≤ a ∧ 0 ≤ b ∧ a < (n : Int) ∧ (n : Int) ≤ b) by omega) with h1 | ⟨h1, h2⟩ | ⟨h1, h2, h3⟩ | ⟨h1, h2, h3, h4⟩
  all_goals
    clear h ht
    go_enter Try.func4, Try.ntmps4
    go_wp2_with fail
    refine (awake_any _).mono ?_
    rintro e w1 ⟨rfl, hb1⟩
    go_wp2_with fail
    refine (check_ok A cap n _ p w1 (HT.out.below hb1)).mono ?_
    rintro e w2 ⟨rfl, rfl⟩
    go_wp2_with fail
    refine (way_bad A cap n _ p w1 (HT.out.below hb1) a b HH.out).mono ?_
    rintro e w2 ⟨rfl, rfl⟩
    go_wp2_with fail
    refine (way_bad A cap n _ p w1 (HT.out.below hb1) b a HH2.out).mono ?_
    rintro e w2 ⟨rfl, rfl⟩
    go_wp2_with fail
    go_ret
    exact ⟨rfl, hb1⟩

set_option maxRecDepth 100000 in
set_option maxHeartbeats 4000000 in
theorem walk_yes (A : Option Addr) (cap n : Nat) (p : Nat → Nat) (a b : Nat) (w : World) (ht : TreeAt w w.heap.size A n p) (ha : a < n) (hb : b < n) :
    Calls Try.prog 4 #[.slice A n cap, .int .i64 a, .int .i64 b] w fun e w' => e = .returned (.bool true) ∧ Below w.heap.size w w' := by
  have hn := ht.2.1
  have hg := Lib.hid ht.2.2.1
  have g1 : decide ((100 : Int) < (n : Int)) = false := by simp; omega
  have HT := Lib.hid ht
  obtain ⟨_, _, _, bk, off, rfl, hB, h0, hc⟩ := ht
  have HC0 := Lib.hid hc
  have HZ0 := Lib.hid h0
  clear h0 hc
  go_enter Try.func4, Try.ntmps4
  go_wp2_with fail
  refine (awake_any _).mono ?_
  rintro e w1 ⟨rfl, hb1⟩
  go_wp2_with fail
  refine (check_ok _ cap n _ p w1 (HT.out.below hb1)).mono ?_
  rintro e w2 ⟨rfl, rfl⟩
  go_wp2_with fail
  refine (way_any _ cap n p w1 ((HT.out.below hb1).more hb1.size) a b ha hb).mono ?_
  rintro e w3 ⟨A3, c3, rfl, ho3, hb3⟩
  have hb13 := hb1.trans (hb3.mono hb1.size)
  go_wp2_with fail
  refine (way_any _ cap n p w3 ((HT.out.below hb13).more hb13.size) b a hb ha).mono ?_
  rintro e w4 ⟨A4, c4, rfl, ho4, hb4⟩
  have hb14 := hb13.trans (hb4.mono hb13.size)
  have ho34 := own_below ho3 hb4
  rw [← way_turn p a b] at ho4 ⊢
  rw [List.length_reverse] at ho4 ⊢
  have hle := Lib.hid (way_le p a b n ha hb)
  have hnd := Lib.hid (way_nodup p a b)
  obtain ⟨W, hW⟩ : ∃ W, W = way p a b := ⟨_, rfl⟩
  rw [← hW] at ho34 ho4 hle hnd ⊢
  have hl0 : 0 < W.length := by
    obtain ⟨t, ht⟩ := way_head p a b
    rw [hW, ht]
    simp
  have hL31 : W.length ≤ 40 := by
    have h := way_length p a b
    have h1 := dep_le p a
    have h2 := dep_le p b
    rw [hW]
    omega
  have hfst : W[0]?.getD 0 = a := by
    obtain ⟨t, ht⟩ := way_head p a b
    rw [hW, ht]
    rfl
  have hlst : W[W.length - 1]?.getD 0 = b := by
    obtain ⟨t, ht⟩ := way_last p a b
    rw [hW, ht]
    simp
  have HW := Lib.hid hW
  obtain ⟨g3, rfl, hg3, hgs3, hnc3, hcell3, hfree3⟩ := own_addr ho34 hl0
  obtain ⟨g4, rfl, hg4, hgs4, hnc4, hcell4, hfree4⟩ := own_addr ho4 hl0
  have hcw : ∀ j, j < W.length → w4.cell? ⟨g3, j, none⟩ = some (.int .i64 ((W[j]?.getD 0 : Nat) : Int)) := fun j hj => hcell3 j _ (natsV_get W hj)
  have hcv : ∀ j, j < W.length → w4.cell? ⟨g4, W.length - 1 - j, none⟩ = some (.int .i64 ((W[j]?.getD 0 : Nat) : Int)) := fun j hj => by
    refine hcell4 _ _ ?_
    rw [natsV_get W.reverse (by rw [List.length_reverse]; omega), List.getElem?_reverse (by omega)]
    rw [show W.length - 1 - (W.length - 1 - j) = j by omega]
  have c0 := hcw 0 hl0
  have cl := hcw (W.length - 1) (by omega)
  rw [hfst] at c0
  rw [hlst] at cl
  have HCW := Lib.hid hcw
  have HCV := Lib.hid hcv
  clear hcell3 hfree3 hcell4 hfree4 hcw hcv hW hnc3 hnc4 ho3 ho34 ho4 hfst hlst
  generalize hLL : W.length = L at *
  have HLL := Lib.hid hLL
  clear hLL
  have g6 : ((L : Int) == 0) = false := by rw [beq_eq_false_iff_ne]; omega
  have hl0' : (0 : Int) < (L : Int) := by omega
  have eL : (L : Int) - 1 = ((L - 1 : Nat) : Int) := by omega
  go_wp2_with fail
  have hS0 : Blk (w4.alloc (.cells (seenC []) 28)) w4.heap.size 28 (seenC []) := Blk.made _ _ _
  have hBL : Below w4.heap.size w4 (w4.alloc (.cells (seenC []) 28)) := (Below.refl _ _).alloc (Nat.le_refl _) _
  go_loopw [13] (fun i_ wr => ∃ i : Nat, i_ = .int .i64 i ∧ i ≤ L ∧ Blk wr w4.heap.size 28 (seenC (W.take i)) ∧ Below w4.heap.size w4 wr) (fun i _ => L - (intOf i).toNat)
  case atStart => exact ⟨0, rfl, by omega, hS0, hBL⟩
  case round =>
    obtain ⟨i, rfl, hi, hS, hbw⟩ := hrel
    have hbw0 := hb14.trans (hbw.mono hb14.size)
    by_cases hil : i < L
    · have hil' : (i : Int) < (L : Int) := by omega
      have hiW : i < W.length := by have := HLL.out; omega
      have cw := (hbw.cell (p := ⟨g3, i, none⟩) hgs3).trans (HCW.out i hil)
      have cv := (hbw.cell (p := ⟨g4, L - 1 - i, none⟩) hgs4).trans (HCV.out i hil)
      have hxm : W[i]?.getD 0 ∈ W := by rw [List.getElem?_eq_getElem hiW]; exact List.getElem_mem hiW
      have hxn := hle.out _ hxm
      have htk : W.take (i + 1) = W.take i ++ [W[i]?.getD 0] := by rw [List.take_succ_eq_append_getElem hiW, List.getElem?_eq_getElem hiW]; rfl
      have hnot : ¬ W[i]?.getD 0 ∈ W.take i := by
        have h := hnd.out
        rw [← List.take_append_drop (i + 1) W, htk, List.nodup_append] at h
        have h2 := h.1
        rw [List.nodup_append] at h2
        exact fun hm => h2.2.2 _ hm _ (by simp) rfl
      have HDROP : Hid (0 < i → way p (W[i - 1]?.getD 0) b = W[i - 1]?.getD 0 :: W[i]?.getD 0 :: W.drop (i + 1)) := fun h0 => by
        have h := way_drop p (a := a) (b := b) hg.out ha hb (i - 1) (by rw [← HW.out]; omega)
        rw [← HW.out] at h
        rw [← h, List.drop_eq_getElem_cons (by omega), show i - 1 + 1 = i by omega, List.drop_eq_getElem_cons hiW, List.getElem?_eq_getElem hiW, List.getElem?_eq_getElem (by omega)]
        rfl
      generalize W[i]?.getD 0 = x at *
      have sx : wr.cell? ⟨w4.heap.size, x, none⟩ = some (.bool false) := by
        rw [hS.cell x, seen_get _ (by omega), decide_eq_false hnot]
      have fx := hS.free x
      have hS2 := hS.put x (.bool true)
      rw [seen_set, ← htk] at hS2
      have hb2 := hbw.setCell (p := ⟨w4.heap.size, x, none⟩) (Nat.le_refl _) (.bool true)
      have hx16 : (x : Int) < 16 := by omega
      have hxn' : (x : Int) < (n : Int) := by omega
      have e3 : decide (n ≤ x) = false := by simp; omega
      clear hxm htk hnot hS hiW
      by_cases hi0 : i = 0
      · subst hi0
        rw [Nat.sub_zero] at cv
        go_wp2_with fail
        go_roundw
        case rel => exact ⟨1, by simp, by omega, hS2, hb2⟩
        case measure => simp [intOf]; omega
      · have HWAY := HDROP.out (by omega)
        have e0 : ((i : Int) == 0) = false := by rw [beq_eq_false_iff_ne]; omega
        have hyn : W[i - 1]?.getD 0 < n := hle.out _ (by have := HLL.out; rw [List.getElem?_eq_getElem (by omega)]; exact List.getElem_mem _)
        have cy0 := (hbw.cell (p := ⟨g3, i - 1, none⟩) hgs3).trans (HCW.out (i - 1) (by omega))
        have cy := (cell_far (w := wr) (q := w4.heap.size) (i := x) (g := g3) (o := i - 1) (.bool true) (by omega)).trans cy0
        clear cy0
        generalize W[i - 1]?.getD 0 = y at *
        have hyb : y ≠ b := fun e => by
          rw [e, way_same] at HWAY
          cases HWAY
        obtain ⟨c, hc, hcn, hnb⟩ := way_next p hg.out hyn hb hyb
        obtain ⟨t, hct⟩ := way_head p c b
        obtain rfl : x = c := by
          rw [hc, hct] at HWAY
          injection HWAY with _ h2
          injection h2 with h3
          exact h3.symm
        have HWY := Lib.hid HWAY
        have HYB := Lib.hid hyb
        have HT2 := Lib.hid ((HT.out.below (hb14.trans (hb2.mono hb14.size))).more (Nat.le_trans hb14.size hb2.size))
        clear hc hct HWAY hyb HDROP
        go_wp2_with fail
        refine (step_any _ cap n p _ HT2.out y b hyn hb HYB.out x _ HWY.out).mono ?_
        rintro e w5 ⟨rfl, hb5⟩
        have HB5 := hb2.trans (hb5.mono hb2.size)
        have hb05 := hb14.trans (HB5.mono hb14.size)
        have cy5 := (hb5.cell (p := ⟨g3, i - 1, none⟩) (Nat.lt_of_lt_of_le hgs3 hb2.size)).trans cy
        have hS5 := hS2.below hb5 hS2.lt
        have hyn' : (y : Int) < (n : Int) := by omega
        have hxl : ∃ v : Int, w5.cell? ⟨bk, off + x, none⟩ = some (.int .i64 v) ∧ ((0 < x ∧ v = (p x : Int)) ∨ (x = 0 ∧ v = -1)) := by
          by_cases hx0 : x = 0
          · refine ⟨-1, ?_, .inr ⟨hx0, rfl⟩⟩
            rw [hx0]
            exact (hb05.cell (p := ⟨bk, off, none⟩) hB).trans HZ0.out
          · exact ⟨_, (hb05.cell (p := ⟨bk, off + x, none⟩) hB).trans (HC0.out x (by omega) hxn), .inl ⟨by omega, rfl⟩⟩
        obtain ⟨v, cx5, hv⟩ := hxl
        have q1 : IntKind.i64.wrap ((i : Int) - 1) = (i : Int) - 1 := IntWalk.i64_in _ (by omega)
        have q2 : ((i : Int) - 1).toNat = i - 1 := by omega
        have q3 : (0 : Int) ≤ (i : Int) - 1 := by omega
        have q4 : (i : Int) - 1 < (L : Int) := by omega
        have q5 : True := trivial
        rcases hnb with ⟨h0y, hxy⟩ | ⟨h0x, hyx⟩
        · have cyp : w5.cell? ⟨bk, off + y, none⟩ = some (.int .i64 (x : Int)) := by
            rw [hxy]
            exact (hb05.cell (p := ⟨bk, off + y, none⟩) hB).trans (HC0.out y (by omega) hyn)
          have hne : v ≠ (y : Int) := by
            have h1 := hg.out y (by omega) hyn
            rcases hv with ⟨h2, rfl⟩ | ⟨h2, rfl⟩
            · have h3 := hg.out x (by omega) hxn
              omega
            · omega
          have e1 : (v != (y : Int)) = true := by rw [bne_iff_ne]; exact hne
          clear hv hxy hne
          go_wp2_with fail
          go_quiet (fail)
          clear q1 q2 q3 q4 q5
          go_wp2_with fail
          go_roundw
          case rel => exact ⟨i + 1, by go_num, by omega, hS5, below_draws HB5⟩
          case measure => simp [intOf]; omega
        · have hvy : v = (y : Int) := by
            rcases hv with ⟨_, h2⟩ | ⟨h2, _⟩
            · rw [h2, hyx]
            · omega
          rw [hvy] at cx5
          clear hv hvy hyx
          go_wp2_with fail
          go_quiet (fail)
          clear q1 q2 q3 q4 q5
          go_wp2_with fail
          go_roundw
          case rel => exact ⟨i + 1, by go_num, by omega, hS5, below_draws HB5⟩
          case measure => simp [intOf]; omega
    · have hge : (L : Int) ≤ (i : Int) := by omega
      go_wp2_with fail
      go_ret
      exact ⟨rfl, hbw0⟩
theorem walk (A : Option Addr) (cap n : Nat) (f : Nat → Int) (a b : Int) (w : World) (_ : n ≤ cap) (hm : cap ≤ 9223372036854775807) (h : Arr w w.heap.size A n f) (_ : (Lit.int .i64 a).wf = true) (_ : (Lit.int .i64 b).wf = true) :
    Calls Try.prog 4 #[.slice A n cap, .int .i64 a, .int .i64 b] w fun e w' => e = .returned (.bool true) ∧ Below w.heap.size w w' := by
  by_cases ht : IsTree n f
  · by_cases ho : (a < 0 ∨ (n : Int) ≤ a) ∨ (b < 0 ∨ (n : Int) ≤ b)
    · exact walk_out A cap n _ a b w (h.tree ht) ho
    · obtain ⟨i, rfl⟩ : ∃ i : Nat, a = i := ⟨a.toNat, by omega⟩
      obtain ⟨j, rfl⟩ : ∃ j : Nat, b = j := ⟨b.toNat, by omega⟩
      exact walk_yes A cap n _ i j w (h.tree ht) (by omega) (by omega)
  · exact walk_no A cap n f a b w (by omega) h (.inr ht)

theorem own : ownKnob Try.prog.godebug = none := by kernel_rfl
theorem laidOut : laidOutB Try.prog = true := by kernel_rfl
set_option maxRecDepth 100000 in
theorem lifted (os : Os) (started : os.Started) (H : Type) (enc : TypeId × Value → H) :
    ReturnsInHanded {} Try.checked os 4 .any (Rows.treeWaysSpec.pre6 enc Try.prog Try.f4 Rows.treeWaysRow.domain false) (Rows.treeWaysSpec.post enc Try.prog Try.f4 false true false false) := by
  refine returnsInHanded_of_change (C := Try.checked) own started (by kernel_rfl) Try.func4
    (ChangeSpec.witness6 (enc := enc) (C := Try.checked) false ⟨#[], #[.slice none 0 0, .int .i64 0, .int .i64 0], []⟩ 8 (by kernel_rfl) (by kernel_rfl) (by kernel_rfl) (by kernel_rfl)) ?_
  intro W base args ds gs before hval0 hW _ _
  have hval : ∀ (j : Nat) t v, Try.f4.params[j]? = some t → args[j]? = some v → Value.okWide Try.prog W .any base t v := hval0
  have hW' := hW
  obtain ⟨p, q, hA0, hV, rfl, _, _⟩ := hW
  have hA : DataW.TrodAll enc Try.prog W 0 (fun _ => true) true Try.f4.params.toList args.toList ds p := hA0
  rw [Try.params4] at hA hval
  obtain ⟨v0, vs0, d0, ds0, p0, q0, hargs, rfl, rfl, h0, r0⟩ := trodAll_cons hA
  obtain ⟨v1, vs1, d1, ds1, p1, q1, rfl, rfl, rfl, h1, r1⟩ := trodAll_cons r0
  obtain ⟨v2, vs2, d2, ds2, p2, q2, rfl, rfl, rfl, h2, r2⟩ := trodAll_cons r1
  obtain ⟨rfl, rfl, rfl⟩ := trodAll_nil r2
  obtain rfl : args = #[v0, v1, v2] := by cases args; simp_all
  obtain ⟨rfl, rfl⟩ := trodVars_none hV
  obtain ⟨a0, len0, cap0, rfl⟩ := okWide_slice Try.underlying23 (hval 0 23 v0 rfl rfl)
  have k0 := h0
  have lt0 : ∀ x ∈ p0, x.block < W.heap.size := by obtain ⟨m, hm⟩ := k0; exact DataW.trod_lt m _ _ _ hm
  obtain ⟨l0, hc0, hm0, hb0⟩ := open_arr Try.underlying23 Try.underlying3 (by kernel_rfl) h0
  obtain ⟨a1, rfl, rfl, rfl, w1⟩ := open_int Try.underlying3 (hval 1 3 v1 rfl rfl) h1
  obtain ⟨a2, rfl, rfl, rfl, w2⟩ := open_int Try.underlying3 (hval 2 3 v2 rfl rfl) h2
  clear hA0 hval0
  refine (walk a0 cap0 len0 l0 a1 a2 W hc0 hm0 hb0 w1 w2).mono fun e W' ⟨he, bel⟩ => ?_
  subst he
  exact ⟨_, rfl, _, _, _, [], _, [], hW', trodAll_mk1 (shut_bool Try.underlying4 _), (trodAll_cons_mk (Below.trod laidOut (by kernel_rfl) (of_decide_eq_true (by kernel_rfl)) k0 bel lt0) (trodAll_cons_mk (shut_int Try.underlying3 w1) (trodAll_cons_mk (shut_int Try.underlying3 w2) trodAll_mk0))), rfl, bel.frame _, fun h => by cases h⟩
theorem over : Rows.treeWaysRow.holds Try.pinned (OpenSpec.ofChange Rows.treeWaysSpec) :=
  OpenClaim.holds_of_wide 4 Try.f4 rfl rfl rfl rfl rfl rfl rfl ⟨rfl, rfl, rfl, rfl, rfl⟩ rfl rfl rfl rfl rfl (by kernel_rfl) Try.func4 (by kernel_rfl)
    (of_decide_eq_true (by kernel_rfl)) (by unfold Func.isWrapper; first | (rw [if_pos (by decide +kernel)]; kernel_rfl) | (rw [if_neg (by decide +kernel)]; exact ⟨rfl, rfl⟩))
    (fun os started H enc _ => lifted os started H enc)
theorem proved : Rows.TreeWaysSaid := over
end Go.Proofs.Ytofgclmibemniaa.treeWays
