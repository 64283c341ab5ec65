/- TreeKids: for every []int and int the law returns true, and the []int reads behind the call as before. No conditions. -/
import Derived.Test.YtofgclmibemniaaOpen
namespace Go.Proofs.Ytofgclmibemniaa.treeKids
open Go.ChangeShapes Go.WideShapes Go.ChangeAt Go.RowKit

/-- The law's head: parents that are too many, or no tree. -/
theorem walk_no (A : Option Addr) (cap n : Nat) (f : Nat → Int) (a : Int) (w : World) (hm : n ≤ 9223372036854775807) (h : Arr w w.heap.size A n f) (ht : 100 < n ∨ ¬ IsTree n f) :
    Calls Try.prog 5 #[.slice A n cap, .int .i64 a] w fun e w' => e = .returned (.bool true) ∧ Below w.heap.size w w' := by
  rcases (show 100 < n ∨ (n ≤ 100 ∧ ¬ IsTree n f) by by_cases h : 100 < n; exact .inl h; exact .inr ⟨by omega, ht.resolve_left h⟩) with h1 | ⟨h1, h2⟩
  all_goals
    clear ht
    go_enter Try.func5, Try.ntmps5
    go_wp2_with fail
    refine (awake_any _).mono ?_
    rintro e w1 ⟨rfl, hb1⟩
    go_wp2_with (go_at_call 10; refine (check_bad A cap n _ f w1 (h.below hb1) hm h2).mono ?_; rintro e w2 ⟨rfl, rfl⟩)
    go_ret
    exact ⟨rfl, hb1⟩
theorem upI_kid {p : Nat → Nat} {n m k : Nat} {a : Int} (h : upI p n a m = true) (hk : k < n) (hmk : m ∈ anc p k) : upI p n a k = true := by
  unfold upI at *
  simp only [Bool.and_eq_true, decide_eq_true_eq, Int.toNat_natCast] at *
  exact ⟨⟨h.1.1, h.1.2.1, by omega, by omega⟩, upB_iff.2 (anc_trans p (upB_iff.1 h.2) hmk)⟩

set_option maxRecDepth 100000 in
set_option maxHeartbeats 4000000 in
theorem walk_yes (A : Option Addr) (cap n : Nat) (p : Nat → Nat) (a : Int) (w : World) (ht : TreeAt w w.heap.size A n p) :
    Calls Try.prog 5 #[.slice A n cap, .int .i64 a] w fun e w' => e = .returned (.bool true) ∧ Below w.heap.size w w' := by
  have hn1 := ht.1
  have hn := ht.2.1
  have hg := Lib.hid ht.2.2.1
  have g1 : decide ((100 : Int) < (n : Int)) = false := by simp; omega
  have HT := Lib.hid ht
  obtain ⟨_, _, _, bk, off, rfl, hB, h0, hc⟩ := ht
  have HC0 := Lib.hid hc
  clear h0 hc
  go_enter Try.func5, Try.ntmps5
  go_wp2_with fail
  refine (awake_any _).mono ?_
  rintro e w1 ⟨rfl, hb1⟩
  go_wp2_with fail
  refine (check_ok _ cap n _ p w1 (HT.out.below hb1)).mono ?_
  rintro e w2 ⟨rfl, rfl⟩
  go_wp2_with fail
  go_loopw [6, 7] (fun c_ m_ wr => ∃ c m : Nat, c_ = .int .i64 c ∧ m_ = .int .i64 m ∧ m ≤ n ∧ c ≤ n ∧ Hid (c = upto p n m) ∧ Below w.heap.size w wr) (fun _ m _ => n - (intOf m).toNat)
  case atStart => exact ⟨0, 0, rfl, rfl, by omega, by omega, (upto_zero p n).symm, hb1⟩
  case round =>
    obtain ⟨c, m, rfl, rfl, hm, hc, HC, hbw⟩ := hrel
    by_cases hlt : m < n
    · have hlt' : (m : Int) < (n : Int) := by omega
      have hk0 := upto_succ p n m
      have hk1 := upto_le p n (m + 1)
      have hcn : c + (kids p n m).length ≤ n := by have := HC.out; omega
      have HC2 : Hid (c + (kids p n m).length = upto p n (m + 1)) := by have := HC.out; exact (by omega : c + (kids p n m).length = upto p n (m + 1))
      clear hk0 hk1 HC
      go_wp2_with fail
      refine (kids_any _ cap n p m wr ((HT.out.below hbw).more hbw.size) hlt).mono ?_
      rintro e w3 ⟨A3, c3, rfl, ho3, hb3⟩
      have hb03 := hbw.trans (hb3.mono hbw.size)
      have hT3 := Lib.hid (HT.out.below hb03)
      obtain ⟨K, hK⟩ : ∃ K, K = kids p n m := ⟨_, rfl⟩
      rw [← hK] at ho3 hcn HC2 ⊢
      have HK := Lib.hid hK
      clear hK
      generalize hL : K.length = L at *
      have HL := Lib.hid hL
      clear hL
      go_wp2_with fail
      go_loopw [9, 10] (fun i_ k_ wx => ∃ i : Nat, i_ = .int .i64 i ∧ i ≤ L ∧ wx = w3) (fun i _ _ => L - (intOf i).toNat)
      case atStart => exact ⟨0, rfl, by omega, rfl⟩
      case round =>
        rename_i wx
        obtain ⟨i, rfl, hi, rfl⟩ := hrel
        by_cases hil : i < L
        · obtain ⟨g, rfl, hg3, hgs, hnc, hcell, hfree⟩ := own_addr ho3 (by omega)
          have hiK : i < K.length := by have := HL.out; omega
          have ci := hcell i _ (natsV_get K hiK)
          have hmem : K[i]?.getD 0 ∈ K := by rw [List.getElem?_eq_getElem hiK]; exact List.getElem_mem hiK
          have hil' : (i : Int) < (L : Int) := by omega
          generalize K[i]?.getD 0 = x at *
          obtain ⟨hxn, hx1, hpx⟩ := mem_kids.1 (by rw [← HK.out]; exact hmem)
          have hmx : m < x := by have := hg.out x hx1 hxn; omega
          have cx := (hb03.cell (p := ⟨bk, off + x, none⟩) hB).trans (HC0.out x hx1 hxn)
          rw [hpx] at cx
          have hds := dep_step p (by omega) (hg.out x hx1 hxn)
          rw [hpx] at hds
          have hdm := dep_le p m
          have hme : m ∈ anc p x := by
            rw [anc_step p (by omega) (hg.out x hx1 hxn), hpx]
            exact List.mem_cons_of_mem _ (anc_self p m)
          have e2 : ((dep p x : Int) != (dep p m : Int) + 1) = false := by rw [bne_eq_false_iff_eq]; omega
          have u1 : upB p m x = true := upB_iff.2 hme
          have u2 : upB p x m = false := upB_not.2 (fun h => by have := anc_le p m x h; omega)
          have HUP : Hid (upI p n a m = true → upI p n a x = true) := fun h => upI_kid h hxn hme
          have hx1' : (m : Int) < (x : Int) := by omega
          have hxn' : (x : Int) < (n : Int) := by omega
          have e3 : decide (x ≤ m) = false := by simp; omega
          have e4 : decide (n ≤ x) = false := by simp; omega
          clear hcell hfree hnc hmem hpx hds hme
          cases hu : upI p n a m
          · go_wp2_with fail
            refine (depth_any _ cap n _ p _ hT3.out x hxn).mono ?_
            rintro e w4 ⟨rfl, rfl⟩
            go_wp2_with fail
            refine (depth_any _ cap n _ p _ hT3.out m hlt).mono ?_
            rintro e w4 ⟨rfl, rfl⟩
            go_wp2_with fail
            refine (up_any _ cap n _ p _ hT3.out m x hlt hxn).mono ?_
            rintro e w4 ⟨rfl, rfl⟩
            go_wp2_with fail
            refine (up_any _ cap n _ p _ hT3.out x m hxn hlt).mono ?_
            rintro e w4 ⟨rfl, rfl⟩
            go_wp2_with fail
            refine (up_all _ cap n _ p _ hT3.out a m).mono ?_
            rintro e w4 ⟨rfl, rfl⟩
            go_wp2_with fail
            go_roundw
            case rel => exact ⟨i + 1, by go_num, by omega, trivial⟩
            case measure => simp [intOf]; omega
          · have hu2 := HUP.out hu
            go_wp2_with fail
            refine (depth_any _ cap n _ p _ hT3.out x hxn).mono ?_
            rintro e w4 ⟨rfl, rfl⟩
            go_wp2_with fail
            refine (depth_any _ cap n _ p _ hT3.out m hlt).mono ?_
            rintro e w4 ⟨rfl, rfl⟩
            go_wp2_with fail
            refine (up_any _ cap n _ p _ hT3.out m x hlt hxn).mono ?_
            rintro e w4 ⟨rfl, rfl⟩
            go_wp2_with fail
            refine (up_any _ cap n _ p _ hT3.out x m hxn hlt).mono ?_
            rintro e w4 ⟨rfl, rfl⟩
            go_wp2_with fail
            refine (up_all _ cap n _ p _ hT3.out a m).mono ?_
            rintro e w4 ⟨rfl, rfl⟩
            go_wp2_with fail
            refine (up_all _ cap n _ p _ hT3.out a x).mono ?_
            rintro e w4 ⟨rfl, rfl⟩
            go_wp2_with fail
            go_roundw
            case rel => exact ⟨i + 1, by go_num, by omega, trivial⟩
            case measure => simp [intOf]; omega
        · have hge : (L : Int) ≤ (i : Int) := by omega
          go_wp2_with fail
          go_roundw
          case rel => exact ⟨c + L, m + 1, by go_num, by go_num, by omega, hcn, HC2, hb03⟩
          case measure => simp [intOf]; omega
    · have hge : (n : Int) ≤ (m : Int) := by omega
      have hcn : c = n - 1 := by
        have h1 := HC.out
        have h2 := upto_all p n hn1 hg.out
        rw [show m = n by omega] at h1
        omega
      have e1 : ((c : Int) == (n : Int) - 1) = true := by rw [beq_iff_eq]; omega
      have d0 := dep_zero p
      have u0 : upB p 0 (n - 1) = true := upB_iff.2 (anc_root p _)
      have hD : ∀ W : World, TreeAt W w.heap.size (some ⟨bk, off, none⟩) n p → Calls Try.prog 14 #[.slice (some ⟨bk, off, none⟩) n cap, .int .i64 0] W fun e w' => e = .returned (.int .i64 0) ∧ W = w' := fun W hT => by
        have h := depth_any _ cap n _ p W hT 0 (by omega)
        rw [d0] at h
        exact h
      have hU : ∀ W : World, TreeAt W w.heap.size (some ⟨bk, off, none⟩) n p → Calls Try.prog 15 #[.slice (some ⟨bk, off, none⟩) n cap, .int .i64 0, .int .i64 ((n : Int) - 1)] W fun e w' => e = .returned (.bool true) ∧ W = w' := fun W hT => by
        have h := up_any _ cap n _ p W hT 0 (n - 1) (by omega) (by omega)
        rw [u0, show ((n - 1 : Nat) : Int) = (n : Int) - 1 by omega] at h
        exact h
      have hT3 := HT.out.below hbw
      have HD := Lib.hid (hD wr hT3)
      have HU := Lib.hid (hU wr hT3)
      clear hD hU hT3 hcn d0 u0
      go_wp2_with fail
      refine (HD.out).mono ?_
      rintro e w4 ⟨rfl, rfl⟩
      go_wp2_with fail
      refine (HU.out).mono ?_
      rintro e w4 ⟨rfl, rfl⟩
      go_wp2_with fail
      go_ret
      exact ⟨rfl, hbw⟩
theorem walk (A : Option Addr) (cap n : Nat) (f : Nat → Int) (a : Int) (w : World) (_ : n ≤ cap) (hm : cap ≤ 9223372036854775807) (h : Arr w w.heap.size A n f) (_ : (Lit.int .i64 a).wf = true) :
    Calls Try.prog 5 #[.slice A n cap, .int .i64 a] w fun e w' => e = .returned (.bool true) ∧ Below w.heap.size w w' := by
  by_cases ht : IsTree n f
  · exact walk_yes A cap n _ a w (h.tree ht)
  · exact walk_no A cap n f a w (by omega) h (.inr ht)

theorem own : ownKnob Try.prog.godebug = none := by kernel_rfl
theorem laidOut : laidOutB Try.prog = true := by kernel_rfl
set_option maxRecDepth 100000 in
theorem lifted (os : Os) (started : os.Started) (H : Type) (enc : TypeId × Value → H) :
    ReturnsInHanded {} Try.checked os 5 .any (Rows.treeKidsSpec.pre6 enc Try.prog Try.f5 Rows.treeKidsRow.domain false) (Rows.treeKidsSpec.post enc Try.prog Try.f5 false true false false) := by
  refine returnsInHanded_of_change (C := Try.checked) own started (by kernel_rfl) Try.func5
    (ChangeSpec.witness6 (enc := enc) (C := Try.checked) false ⟨#[], #[.slice none 0 0, .int .i64 0], []⟩ 8 (by kernel_rfl) (by kernel_rfl) (by kernel_rfl) (by kernel_rfl)) ?_
  intro W base args ds gs before hval0 hW _ _
  have hval : ∀ (j : Nat) t v, Try.f5.params[j]? = some t → args[j]? = some v → Value.okWide Try.prog W .any base t v := hval0
  have hW' := hW
  obtain ⟨p, q, hA0, hV, rfl, _, _⟩ := hW
  have hA : DataW.TrodAll enc Try.prog W 0 (fun _ => true) true Try.f5.params.toList args.toList ds p := hA0
  rw [Try.params5] at hA hval
  obtain ⟨v0, vs0, d0, ds0, p0, q0, hargs, rfl, rfl, h0, r0⟩ := trodAll_cons hA
  obtain ⟨v1, vs1, d1, ds1, p1, q1, rfl, rfl, rfl, h1, r1⟩ := trodAll_cons r0
  obtain ⟨rfl, rfl, rfl⟩ := trodAll_nil r1
  obtain rfl : args = #[v0, v1] := by cases args; simp_all
  obtain ⟨rfl, rfl⟩ := trodVars_none hV
  obtain ⟨a0, len0, cap0, rfl⟩ := okWide_slice Try.underlying23 (hval 0 23 v0 rfl rfl)
  have k0 := h0
  have lt0 : ∀ x ∈ p0, x.block < W.heap.size := by obtain ⟨m, hm⟩ := k0; exact DataW.trod_lt m _ _ _ hm
  obtain ⟨l0, hc0, hm0, hb0⟩ := open_arr Try.underlying23 Try.underlying3 (by kernel_rfl) h0
  obtain ⟨a1, rfl, rfl, rfl, w1⟩ := open_int Try.underlying3 (hval 1 3 v1 rfl rfl) h1
  clear hA0 hval0
  refine (walk a0 cap0 len0 l0 a1 W hc0 hm0 hb0 w1).mono fun e W' ⟨he, bel⟩ => ?_
  subst he
  exact ⟨_, rfl, _, _, _, [], _, [], hW', trodAll_mk1 (shut_bool Try.underlying4 _), (trodAll_cons_mk (Below.trod laidOut (by kernel_rfl) (of_decide_eq_true (by kernel_rfl)) k0 bel lt0) (trodAll_cons_mk (shut_int Try.underlying3 w1) trodAll_mk0)), rfl, bel.frame _, fun h => by cases h⟩
theorem over : Rows.treeKidsRow.holds Try.pinned (OpenSpec.ofChange Rows.treeKidsSpec) :=
  OpenClaim.holds_of_wide 5 Try.f5 rfl rfl rfl rfl rfl rfl rfl ⟨rfl, rfl, rfl, rfl, rfl⟩ rfl rfl rfl rfl rfl (by kernel_rfl) Try.func5 (by kernel_rfl)
    (of_decide_eq_true (by kernel_rfl)) (by unfold Func.isWrapper; first | (rw [if_pos (by decide +kernel)]; kernel_rfl) | (rw [if_neg (by decide +kernel)]; exact ⟨rfl, rfl⟩))
    (fun os started H enc _ => lifted os started H enc)
theorem proved : Rows.TreeKidsSaid := over
end Go.Proofs.Ytofgclmibemniaa.treeKids
