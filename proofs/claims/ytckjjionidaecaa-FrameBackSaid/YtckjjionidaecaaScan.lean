/- The walks of both Scans: the frames of the plain laws, each in a row of the call's own. -/
import Derived.Test.YtckjjionidaecaaWrap2
namespace Go.Proofs.Ytckjjionidaecaa
open Go.RowKit

theorem number_at (A : Option Addr) (c B q : Nat) (l : List UInt8) (w : World) (F K : Int) (f k n : Nat) (hF : F = f) (hK : K = k) (hn : n = Fr.number ((l.drop f).take k)) (h : Bytes w B A l) (hm : l.length ≤ 9223372036854775807) (hc : l.length ≤ c)
    (hq : w.cell? ⟨q, 0, none⟩ = some (.slice A l.length c)) (h1 : 0 < k) (h4 : k ≤ 4) (hfn : f + k ≤ l.length) :
    Calls Try.prog 18 #[.int .i64 F, .int .i64 K, .pointer (some ⟨q, 0, none⟩)] w fun e w' => e = .returned (.int .i64 n) ∧ w = w' := by
  subst hF hK hn
  exact number_any A c B q l w f k h hm hc hq (by omega) (by omega) (by omega) (by omega)

section
variable {w w' : World} {base base' e e' n m : Nat} {v u : Value} {xs ys : List Value}
theorem own_below (h : w.ownsRow base e 1 v n xs) (hb : Below w.heap.size w w') : w'.ownsRow base e 1 v n xs := by
  refine ⟨h.1, ?_⟩
  rcases h.2 with hn | ⟨g, cap, cur, hv, hg, hh, rest⟩
  · exact .inl hn
  · exact .inr ⟨g, cap, cur, hv, hg, (hb.block g (Array.getElem?_eq_some_iff.1 hh).1).trans hh, rest⟩
theorem own_mono (h : w.ownsRow base e 1 v n xs) (hb : base' ≤ base) : w.ownsRow base' e 1 v n xs := by
  refine ⟨h.1, ?_⟩
  rcases h.2 with hn | ⟨g, cap, cur, hv, hg, rest⟩
  · exact .inl hn
  · exact .inr ⟨g, cap, cur, hv, by omega, rest⟩
theorem own_ne (h : w.ownsRow base e 1 v n xs) (k : w.ownsRow base' e' 1 u m ys) (hne : e ≠ e') : v.ownBlock = none ∨ v.ownBlock ≠ u.ownBlock := by
  rcases h.2 with ⟨rfl, _⟩ | ⟨g, cap, cur, rfl, hg, hh, _⟩
  · exact .inl rfl
  · right
    exact (Blk.ne_own (cs := cur) hh k (Ne.symm hne))
end

/-- The rows xs of the call's own read as the lists ls. -/
def Own2 (w : World) (base : Nat) (xs : List Value) (ls : List (List UInt8)) : Prop :=
  xs.length = ls.length ∧ ∀ (i : Nat) (u : Value) (p : List UInt8), xs[i]? = some u → ls[i]? = some p → w.ownsRow base 5 1 u p.length (bytesV p)

/-- The variable 'out' of a Scan, and what it has gathered. -/
def Got (w : World) (base : Nat) (v : Value) (ls : List (List UInt8)) : Prop := ∃ A c xs, v = .slice A ls.length c ∧ w.ownsRow base 23 1 v ls.length xs ∧ Own2 w base xs ls

theorem Got.none_ (w : World) (base : Nat) : Got w base (.slice none 0 0) [] := ⟨_, _, [], rfl, World.ownsRow_nil _ _ _ _, rfl, fun i u p h => by simp at h⟩
theorem Got.mono {w : World} {base base' : Nat} {v : Value} {ls : List (List UInt8)} (h : Got w base v ls) (hb : base' ≤ base) : Got w base' v ls := by
  obtain ⟨A, c, xs, hv, ho, hl, hx⟩ := h
  exact ⟨A, c, xs, hv, own_mono ho hb, hl, fun i u p h1 h2 => own_mono (hx i u p h1 h2) hb⟩
theorem Got.below {w w' : World} {base : Nat} {v : Value} {ls : List (List UInt8)} (h : Got w base v ls) (hb : Below w.heap.size w w') : Got w' base v ls := by
  obtain ⟨A, c, xs, hv, ho, hl, hx⟩ := h
  exact ⟨A, c, xs, hv, own_below ho hb, hl, fun i u p h1 h2 => own_below (hx i u p h1 h2) hb⟩

/-- One body more: the body a row of its own in w1, laid in a block, appended. -/
theorem Got.step {w w1 w2 : World} {base : Nat} {A A2 : Option Addr} {c c2 : Nat} {u : Value} {xs : List Value} {ls : List (List UInt8)} {p : List UInt8} (hs : base ≤ w.heap.size)
    (ho : w.ownsRow base 23 1 (.slice A ls.length c) ls.length xs) (hx : Own2 w base xs ls) (hu : w1.ownsRow w.heap.size 5 1 u p.length (bytesV p)) (hb : Below w.heap.size w w1)
    (ho2 : w2.ownsRow base 23 1 (.slice A2 (ls.length + 1) c2) (ls.length + 1) (xs ++ [u])) (hg : (w1.alloc (.cells #[u] 23)).grownBy w2 (Value.slice A ls.length c).ownBlock) :
    Got w2 base (.slice A2 (ls.length + 1) c2) (ls ++ [p]) ∧ Below base w w2 := by
  have ho1 : (w1.alloc (.cells #[u] 23)).ownsRow base 23 1 (.slice A ls.length c) ls.length xs := (own_below ho hb).alloc _
  have hbase : base ≤ (w1.alloc (.cells #[u] 23)).heap.size := by have := hb.size; simp; omega
  refine ⟨⟨A2, c2, xs ++ [u], by simp, by simpa using ho2, by simp [hx.1], ?_⟩, ((hb.mono hs).alloc (by have := hb.size; omega) _).trans (below_append ho1 hg (Nat.le_refl _) hbase)⟩
  intro i x r h1 h2
  rw [List.getElem?_append] at h1 h2
  rw [hx.1] at h1
  by_cases hi : i < ls.length
  · rw [if_pos hi] at h1 h2
    have hr : (w1.alloc (.cells #[u] 23)).ownsRow base 5 1 x r.length (bytesV r) := (own_below (hx.2 i x r h1 h2) hb).alloc _
    exact hr.kept hg (own_ne hr ho1 (by decide))
  · rw [if_neg hi] at h1 h2
    have hi0 : i - ls.length = 0 := by
      rcases Nat.eq_zero_or_pos (i - ls.length) with h | h
      · exact h
      · rw [List.getElem?_eq_none (by simp; omega)] at h1
        cases h1
    rw [hi0] at h1 h2
    simp only [List.getElem?_cons_zero, Option.some.injEq] at h1 h2
    subst h1 h2
    have hr : (w1.alloc (.cells #[u] 23)).ownsRow base 5 1 u p.length (bytesV p) := (own_mono hu hs).alloc _
    exact hr.kept hg (own_ne hr ho1 (by decide))

/-! ### What one round meets, plainly -/
theorem used_len (ls : List (List UInt8)) : ls.length ≤ Fr.used ls := by
  induction ls with
  | nil => exact Nat.le_refl _
  | cons p r ih => simp only [List.length_cons, Fr.used]; omega
section
variable {l : List UInt8} {a n : Nat}
theorem end_short (h : l.length ≤ a + 6) : Fr.full (l.drop a) = [] := by
  apply Fr.full_none
  unfold Fr.head
  rw [if_pos (by rw [List.length_drop]; omega)]
theorem end_bad (hn : n = Fr.number ((l.drop a).take 2)) (h : n = 0 ∨ 4000 < n ∨ l.length < a + 6 + n) : Fr.full (l.drop a) = [] := by
  apply Fr.full_none
  unfold Fr.head
  rw [← hn]
  by_cases h6 : (l.drop a).length ≤ 6
  · rw [if_pos h6]
  · rw [if_neg h6, if_pos]
    rw [List.length_drop] at h6 ⊢
    omega
theorem end_sum {p : List UInt8} {m : Nat} (hn : n = Fr.number ((l.drop a).take 2)) (hp : p = (l.drop (a + 6)).take n) (hm : m = Fr.number ((l.drop (a + 2)).take 4)) (h : m ≠ Fr.sum p) : Fr.full (l.drop a) = [] := by
  apply Fr.full_none
  unfold Fr.head
  rw [← hn, List.drop_drop, List.drop_drop, ← hm, ← hp]
  by_cases h6 : (l.drop a).length ≤ 6
  · rw [if_pos h6]
  · rw [if_neg h6]
    split
    · rfl
    · first | rfl | rw [if_neg h]
theorem goes_on {p : List UInt8} {m : Nat} (h6 : a + 6 < l.length) (hn : n = Fr.number ((l.drop a).take 2)) (h0 : n ≠ 0) (h4 : n ≤ 4000) (hl : a + 6 + n ≤ l.length) (hp : p = (l.drop (a + 6)).take n)
    (hm : m = Fr.number ((l.drop (a + 2)).take 4)) (h : m = Fr.sum p) : Fr.full (l.drop a) = p :: Fr.full (l.drop (a + 6 + p.length)) := by
  have hh : Fr.head (l.drop a) = some p := by
    unfold Fr.head
    rw [← hn, List.drop_drop, List.drop_drop, ← hm, ← hp, if_neg (by rw [List.length_drop]; omega), if_neg (by rw [List.length_drop]; omega), if_pos h]
  rw [Fr.full_some hh, List.drop_drop, Nat.add_assoc]
end

set_option maxHeartbeats 4000000 in
theorem scan_any (A : Option Addr) (c : Nat) (l : List UInt8) (w : World) (h : Bytes w w.heap.size A l) (hc : l.length ≤ c) (hm : l.length ≤ 1048576) :
    Calls Try.prog 12 #[.slice A l.length c] w fun e w' => ∃ v, e = .returned (.tuple #[v, .int .i64 (Fr.used (Fr.full l))]) ∧ Got w' (w.heap.size + 1) v (Fr.full l) ∧ Below w.heap.size w w' := by
  obtain ⟨i0, hi0, hz0, hz1, hz2⟩ := info_parts Try.info23
  go_enter Try.func12, Try.ntmps12
  go_wp2_with fail
  go_step3
  go_wp2_with fail
  go_step3
  go_wp2_with fail
  go_loopw [4, 5] (fun v i wr => ∃ done : List (List UInt8), i = .int .i64 (Fr.used done) ∧ Fr.used done ≤ l.length ∧ Fr.full l = done ++ Fr.full (l.drop (Fr.used done)) ∧ Got wr (w.heap.size + 1) v done ∧ Blk wr w.heap.size 23 #[.slice A l.length c] ∧ Below w.heap.size w wr)
    (fun _ i _ => l.length - (intOf i).toNat)
  case atStart => exact ⟨[], rfl, Nat.zero_le _, rfl, Got.none_ _ _, Blk.made _ _ _, (Below.refl _ _).alloc (Nat.le_refl _) _⟩
  case round =>
    obtain ⟨done, rfl, hle, hfull, hgot, hbq, hbw⟩ := hrel
    obtain ⟨at_, hat⟩ : ∃ a, a = Fr.used done := ⟨_, rfl⟩
    rw [← hat] at hle hfull ⊢
    have HF := Lib.hid hfull
    have HA := Lib.hid hat
    clear hfull hat
    have cq := hbq.cell 0
    simp at cq
    by_cases h6 : at_ + 6 < l.length
    · obtain ⟨blk, off, rfl, hblk, hcell⟩ := h.open_ (by rw [bytesV_length]; omega)
      clear hcell
      obtain ⟨n, hn⟩ : ∃ n, n = Fr.number ((l.drop at_).take 2) := ⟨_, rfl⟩
      have HN := Lib.hid hn
      clear hn
      have hn65 : n < 65536 := by
        have := number_lt ((l.drop at_).take 2).length ((l.drop at_).take 2) rfl
        rw [HN.out]
        have h2 : ((l.drop at_).take 2).length ≤ 2 := by rw [List.length_take]; omega
        have : 256 ^ ((l.drop at_).take 2).length ≤ 256 ^ 2 := Nat.pow_le_pow_right (by omega) h2
        omega
      by_cases hbad : n = 0 ∨ 4000 < n ∨ l.length < at_ + 6 + n
      · have hend : Fr.full l = done := by rw [HF.out, end_bad HN.out hbad, List.append_nil]
        have HE := Lib.hid hend
        clear hend
        obtain hb | hb | hb : n = 0 ∨ (n ≠ 0 ∧ 4000 < n) ∨ (n ≠ 0 ∧ n ≤ 4000 ∧ l.length < at_ + 6 + n) := by omega
        · have g1 : ((n : Int) == 0) = true := by rw [beq_iff_eq]; omega
          clear hbad hb
          go_wp2_with (go_at_call 18; refine (number_at _ c w.heap.size w.heap.size l _ _ _ at_ 2 n rfl rfl HN.out (h.below hbw) (by omega) hc cq (by omega) (by omega) (by omega)).mono ?_; rintro e w' ⟨rfl, rfl⟩)
          rw [Exit.noGoto_ret]
          go_ret2
          exact ⟨_, by rw [HE.out, HA.out]; rfl, by rw [HE.out]; exact hgot, hbw⟩
        · have g1 : ((n : Int) == 0) = false := by rw [beq_eq_false_iff_ne]; omega
          have g2 : 4000 < (n : Int) := by omega
          clear hbad hb
          go_wp2_with (go_at_call 18; refine (number_at _ c w.heap.size w.heap.size l _ _ _ at_ 2 n rfl rfl HN.out (h.below hbw) (by omega) hc cq (by omega) (by omega) (by omega)).mono ?_; rintro e w' ⟨rfl, rfl⟩)
          rw [Exit.noGoto_ret]
          go_ret2
          exact ⟨_, by rw [HE.out, HA.out]; rfl, by rw [HE.out]; exact hgot, hbw⟩
        · have g1 : ((n : Int) == 0) = false := by rw [beq_eq_false_iff_ne]; omega
          have g2 : (n : Int) ≤ 4000 := by omega
          have g3 : (l.length : Int) - (at_ + 6) < n := by omega
          clear hbad hb
          go_wp2_with (go_at_call 18; refine (number_at _ c w.heap.size w.heap.size l _ _ _ at_ 2 n rfl rfl HN.out (h.below hbw) (by omega) hc cq (by omega) (by omega) (by omega)).mono ?_; rintro e w' ⟨rfl, rfl⟩)
          rw [Exit.noGoto_ret]
          go_ret2
          exact ⟨_, by rw [HE.out, HA.out]; rfl, by rw [HE.out]; exact hgot, hbw⟩
      · have h0 : n ≠ 0 := by omega
        have h4 : n ≤ 4000 := by omega
        have hl : at_ + 6 + n ≤ l.length := by omega
        clear hbad
        obtain ⟨p, hp, hpl⟩ : ∃ p, p = (l.drop (at_ + 6)).take n ∧ n = p.length := ⟨_, rfl, by rw [List.length_take, List.length_drop]; omega⟩
        obtain ⟨m, hm4⟩ : ∃ m, m = Fr.number ((l.drop (at_ + 2)).take 4) := ⟨_, rfl⟩
        have hm32 : m < 4294967296 := by
          have := number_lt ((l.drop (at_ + 2)).take 4).length ((l.drop (at_ + 2)).take 4) rfl
          rw [hm4]
          have h2 : ((l.drop (at_ + 2)).take 4).length ≤ 4 := by rw [List.length_take]; omega
          have : 256 ^ ((l.drop (at_ + 2)).take 4).length ≤ 256 ^ 4 := Nat.pow_le_pow_right (by omega) h2
          omega
        have HM := Lib.hid hm4
        have HP := Lib.hid hp
        have hbp : Bytes w w.heap.size (some ⟨blk, off + (at_ + 6), none⟩) p := by
          have := h.cut (k := at_ + 6) (n := n) (by rw [bytesV_length]; omega) (some ⟨blk, off + (at_ + 6), none⟩) (fun _ => by simp [Addr.add])
          rw [bytesV_cut, ← hp] at this
          exact this
        clear hm4 hp
        subst hpl
        have g1 : ((p.length : Int) == 0) = false := by rw [beq_eq_false_iff_ne]; omega
        have g2 : (p.length : Int) ≤ 4000 := by omega
        have g3 : (p.length : Int) ≤ l.length - (at_ + 6) := by omega
        have g4 : ¬ c = at_ + 6 := by omega
        have e32 : (m : Int) % 4294967296 = m := by omega
        by_cases hs : m = Fr.sum p
        · have hgo := goes_on h6 HN.out h0 h4 hl HP.out HM.out hs
          have HG := Lib.hid hgo
          obtain ⟨Ao, co, xs, rfl, ho, hx⟩ := hgot
          have hdl : done.length ≤ 1048576 := by have := used_len done; have := HA.out; omega
          have g5 : ((m : Int) != (Fr.sum p : Nat)) = false := by rw [bne_eq_false_iff_eq]; omega
          clear hgo hs
          go_wp2_with fail
          refine (number_at _ c w.heap.size w.heap.size l _ _ _ at_ 2 p.length rfl rfl HN.out (h.below hbw) (by omega) hc cq (by omega) (by omega) (by omega)).mono ?_
          rintro e w' ⟨rfl, rfl⟩
          go_wp2_with fail
          refine (number_at _ c w.heap.size w.heap.size l _ _ _ (at_ + 2) 4 m rfl rfl HM.out (h.below hbw) (by omega) hc cq (by omega) (by omega) (by omega)).mono ?_
          rintro e w' ⟨rfl, rfl⟩
          go_wp2_with fail
          refine (sum_any _ _ w.heap.size p _ (hbp.below hbw) (by omega)).mono ?_
          rintro e w' ⟨rfl, rfl⟩
          go_wp2_with fail
          refine (clone_any _ _ p _ ((hbp.below hbw).more hbw.size) (by omega) (by omega)).mono ?_
          rintro e w1 ⟨Au, cu, rfl, hu, hb1⟩
          have ho1 := (own_below ho hb1).alloc (.cells #[.slice Au p.length cu] 23)
          have hs1 : w.heap.size + 1 ≤ w1.heap.size := Nat.le_trans hbq.lt hb1.size
          go_wp2_with (at_builtin; refine wpList_append_from _ rfl (.tmp 49) (.tmp 52) 27 rfl (w.heap.size + 1) 23 i0 _ 24 Try.underlying27 hi0 hz0 hz1 hz2 rfl _ done.length xs rfl ho1 (w1.heap.size + 1) (some ⟨w1.heap.size, 0, none⟩) 1 1 [.slice Au p.length cu] rfl rfl (Lies.one w1 23 _) (by simp [Value.oneCell']) (by unfold maxLen; omega) (by omega) (by simp; omega) ?_; intro A2 c2 w2 ho2 hg2 hat2)
          have R := Got.step hbq.lt ho hx hu hb1 ho2 hg2
          go_roundw
          case rel => exact ⟨done ++ [p], by rw [Fr.used_snoc, ← HA.out]; go_num, by rw [Fr.used_snoc, ← HA.out]; omega, by rw [HF.out, HG.out, Fr.used_snoc, ← HA.out, List.append_assoc, Nat.add_assoc]; rfl, R.1, hbq.below R.2 (Nat.lt_succ_self _), hbw.trans (R.2.mono (Nat.le_succ _))⟩
          case measure => simp [intOf]; omega
        · have hend : Fr.full l = done := by rw [HF.out, end_sum HN.out HP.out HM.out hs, List.append_nil]
          have HE := Lib.hid hend
          have g5 : ((m : Int) != (Fr.sum p : Nat)) = true := by rw [bne_iff_ne]; omega
          clear hend hs
          go_wp2_with fail
          refine (number_at _ c w.heap.size w.heap.size l _ _ _ at_ 2 p.length rfl rfl HN.out (h.below hbw) (by omega) hc cq (by omega) (by omega) (by omega)).mono ?_
          rintro e w' ⟨rfl, rfl⟩
          go_wp2_with fail
          refine (number_at _ c w.heap.size w.heap.size l _ _ _ (at_ + 2) 4 m rfl rfl HM.out (h.below hbw) (by omega) hc cq (by omega) (by omega) (by omega)).mono ?_
          rintro e w' ⟨rfl, rfl⟩
          go_wp2_with fail
          refine (sum_any _ _ w.heap.size p _ (hbp.below hbw) (by omega)).mono ?_
          rintro e w' ⟨rfl, rfl⟩
          go_wp2_with fail
          rw [Exit.noGoto_ret]
          go_ret2
          exact ⟨_, by rw [HE.out, HA.out]; rfl, by rw [HE.out]; exact hgot, hbw⟩
    · have hend : Fr.full l = done := by rw [HF.out, end_short (by omega), List.append_nil]
      have HE := Lib.hid hend
      clear hend
      go_wp2
      rw [Exit.noGoto_ret]
      go_ret2
      exact ⟨_, by rw [HE.out, HA.out]; rfl, by rw [HE.out]; exact hgot, hbw⟩
end Go.Proofs.Ytckjjionidaecaa
