/- The walk of the reference's Send. -/
import Derived.Test.YtbniaojldjhemaaRef2
import Derived.Deep.RegionHeld3
namespace Go.Proofs.Ytbniaojldjhemaa
open Go.Conc Go.RowKit Go.Maps

theorem Try.info24 : (Try.prog.info? 24).map (fun i => (i.zero, i.size, i.bytes)) = some (some (.slice none 0 0), 1, 24) := by kernel_rfl

section
variable (w : World) (base qr n : Nat) (p : Nat → Nat) (M : Nat → Nat → List (List UInt8)) (h : RefAt w base qr n p M)
include h
theorem texts_snoc {W : World} {m : Nat} {xs : List Value} {f t : Nat} {b : List UInt8} (hf : f < 16) (ht : t < 16) (hm : m = (M f t).length) (hxs : xs.length = m)
    (hel : ∀ (i : Nat) (u : Value) (s : List UInt8), xs[i]? = some u → (M f t)[i]? = some s → ∃ A' c', u = .slice A' s.length c' ∧ Bytes w w.heap.size A' s) (nb : Nat) (hnb : nb = b.length) (A8 : Option Addr) (c8 : Nat) (A6 : Option Addr) (c6 : Nat)
    (hb : Below w.heap.size w W) (hl : W.ownsRow w.heap.size 24 1 (.slice A8 (m + 1) c8) (m + 1) (xs ++ [.slice A6 nb c6])) (hmm : W.ownsRow w.heap.size 5 1 (.slice A6 nb c6) nb (bytesV b)) :
    RefAt (W.setCell ⟨qr, 1 + f * 16 + t, none⟩ (.slice A8 (m + 1) c8)) base qr n p (upd M f t (M f t ++ [b])) ∧ w.grownBy (W.setCell ⟨qr, 1 + f * 16 + t, none⟩ (.slice A8 (m + 1) c8)) (some qr) := by
  have hW := h.below hb
  obtain ⟨cs, hbq, _⟩ := hW.blk
  have hlen : (M f t ++ [b]).length = m + 1 := by simp [hm]
  have hT : TextsOff W qr A8 (M f t ++ [b]) := by
    refine ⟨xs ++ [.slice A6 nb c6], ?_, by simp [hxs, hm], fun i u s hu hs => ?_⟩
    · obtain ⟨g, rfl, _, hlt, _, hc, _⟩ := own_addr hl (by omega)
      refine .inr ⟨g, 0, rfl, hlt, fun e => ?_, fun j u hu => by rw [Nat.zero_add]; exact hc j u hu⟩
      subst e
      exact hbq.ne_own hl (by decide) rfl
    · by_cases hi : i < m
      · rw [List.getElem?_append_left (by omega)] at hu hs
        obtain ⟨A', c', e, hy⟩ := hel i u s hu hs
        exact ⟨A', c', e, (hy.below hb).more hb.size⟩
      · have hi' : i = m := by
          have := (List.getElem?_eq_some_iff.1 hs).1
          rw [hlen] at this
          omega
        subst hi'
        rw [List.getElem?_append_right (by omega)] at hu hs
        rw [hxs, Nat.sub_self] at hu
        rw [← hm, Nat.sub_self] at hs
        simp only [List.getElem?_cons_zero, Option.some.injEq] at hu hs
        subst hu hs
        exact ⟨A6, c6, by rw [hnb], Lies.of_own hmm⟩
  have := hW.set (f := f) (t := t) hf ht (A := A8) (c := c8) (ls := M f t ++ [b]) (by rw [hlen]; exact own_cap hl) hT
  rw [hlen] at this
  exact ⟨this.1, grown_trans (grown_below hb (Nat.le_refl _) _) this.2⟩

set_option maxRecDepth 100000 in
set_option maxHeartbeats 4000000 in
theorem rsend_room (f t : Nat) (hf : f < n) (ht : t < n) (hl : ((par p f == t) || (par p t == f)) = true) (A : Option Addr) (cb nb : Nat) (b : List UInt8) (hnb0 : nb = b.length) (hy : Bytes w w.heap.size A b) (hm1 : nb ≤ 1000000) (h8 : (M f t).length < 8) :
    Calls Try.prog 29 #[.pointer (some ⟨qr, 0, none⟩), .int .i64 f, .int .i64 t, .slice A nb cb] w fun e w' => e = .returned (.int .i64 0) ∧ RefAt w' base qr n p (upd M f t (M f t ++ [b])) ∧ w.grownBy w' (some qr) := by
  obtain ⟨i0, hi0, hz0, hz1, hz2⟩ := info_parts Try.info5
  obtain ⟨i1, hi1, hy0, hy1, hy2⟩ := info_parts Try.info24
  obtain ⟨bk, off, cp, c0, _, _, hn⟩ := h.par_cell
  obtain ⟨Al, cl, cr, hmc, xs, hli, hxs0, hel⟩ := h.rows f t (by omega) (by omega)
  obtain ⟨m, hm⟩ : ∃ m, m = (M f t).length := ⟨_, rfl⟩
  have e1 : (f : Int) < 16 := by omega
  have e2 : (t : Int) < 16 := by omega
  have hlk := rlink_near w base qr n p M h f t hf ht
  rw [hl] at hlk
  rw [← hm] at hxs0 cr h8 hmc
  obtain ⟨cs, hqb0, hcs0⟩ := h.blk
  have FIN : Hid (∀ (W : World) (A8 : Option Addr) (c8 : Nat) (A6 : Option Addr) (c6 : Nat), Below w.heap.size w W → W.ownsRow w.heap.size 24 1 (.slice A8 (m + 1) c8) (m + 1) (xs ++ [.slice A6 nb c6]) → W.ownsRow w.heap.size 5 1 (.slice A6 nb c6) nb (bytesV b) →
    RefAt (W.setCell ⟨qr, 1 + f * 16 + t, none⟩ (.slice A8 (m + 1) c8)) base qr n p (upd M f t (M f t ++ [b])) ∧ w.grownBy (W.setCell ⟨qr, 1 + f * 16 + t, none⟩ (.slice A8 (m + 1) c8)) (some qr)) :=
    fun W A8 c8 A6 c6 k1 k2 k3 => texts_snoc w base qr n p M h (by omega) (by omega) hm hxs0 hel nb hnb0 A8 c8 A6 c6 k1 k2 k3
  have hlies : Lies w w.heap.size Al xs := by
    rcases hli with e | ⟨b', o', e1, e2, _, e3⟩
    · exact .inl e
    · exact .inr ⟨b', o', e1, e2, e3⟩
  have hone : ∀ u ∈ xs, u.oneCell' = true := fun u hu => by
    obtain ⟨i, hi, rfl⟩ := List.getElem_of_mem hu
    obtain ⟨_, _, e, _⟩ := hel i xs[i] _ (List.getElem?_eq_getElem hi) (List.getElem?_eq_getElem (by omega))
    rw [e]
    rfl
  have hqlt : qr < w.heap.size := hqb0.lt
  have hcs : cs[1 + f * 16 + t]? = some (.slice Al m cl) := by rw [← hqb0.cell]; exact cr
  have hqb := hqb0
  have hxs : xs.length = m := hxs0
  have hnb : (bytesV b).length = nb := by rw [bytesV_length, hnb0]
  have HIDS := Lib.hid (And.intro hm (And.intro hnb0 (And.intro hcs0 hxs0)))
  clear hl hm hnb0 hcs0 hxs0 hli hel hmc hqb0
  go_enter Try.func29, Try.ntmps29
  go_wp2_with fail
  refine hlk.mono ?_
  rintro e w1 ⟨rfl, rfl⟩
  go_wp2_with fail
  refine wp_region_held_drew (S := fun _ => True) (by kernel_rfl) trivial (fun hHeld => ?_)
  obtain ⟨v0, hv0⟩ : ∃ v0, v0 = w.drew := ⟨_, rfl⟩
  rw [← hv0]
  have hb0 : Below w.heap.size w v0 := by rw [hv0]; exact below_draws (n := 1) (Below.refl _ w)
  clear hv0
  refine wpAnyH_take (i := 0) (v := ?_) (by simp only [List.getElem?_toArray, List.getElem?_cons_zero]; rfl) (by kernel_rfl) (by kernel_rfl) (by kernel_rfl) (by intros; assumption) (Or.inl ⟨by rfl, ?_⟩) hHeld ?_; rotate_left; (intro w hSw; (try dsimp only at hSw); go_simp; try with_reducible rfl)
  try simp only [Act.put, List.setIfInBounds_toArray, List.set_cons_zero, List.set_cons_succ]
  refine wpAnyH_take (i := 1) (v := ?_) (by simp only [List.getElem?_toArray, List.getElem?_cons_succ, List.getElem?_cons_zero]; rfl) (by kernel_rfl) (by kernel_rfl) (by kernel_rfl) (by intros; assumption) (Or.inl ⟨by rfl, ?_⟩) hHeld ?_; rotate_left; (intro w hSw; (try dsimp only at hSw); go_simp; try with_reducible rfl)
  try simp only [Act.put, List.setIfInBounds_toArray, List.set_cons_zero, List.set_cons_succ]
  refine wpAnyH_take (i := 2) (v := ?_) (by simp only [List.getElem?_toArray, List.getElem?_cons_succ, List.getElem?_cons_zero]; rfl) (by kernel_rfl) (by kernel_rfl) (by kernel_rfl) (by intros; assumption) (Or.inl ⟨by rfl, ?_⟩) hHeld ?_; rotate_left; (intro w hSw; (try dsimp only at hSw); go_simp; try with_reducible rfl)
  try simp only [Act.put, List.setIfInBounds_toArray, List.set_cons_zero, List.set_cons_succ]
  refine wpAnyH_take (i := 4) (v := ?_) (by simp only [List.getElem?_toArray, List.getElem?_cons_succ, List.getElem?_cons_zero]; rfl) (by kernel_rfl) (by kernel_rfl) (by kernel_rfl) (by intros; assumption) (Or.inl ⟨by rfl, ?_⟩) hHeld ?_; rotate_left; (intro w hSw; (try dsimp only at hSw); go_simp; try with_reducible rfl)
  try simp only [Act.put, List.setIfInBounds_toArray, List.set_cons_zero, List.set_cons_succ]
  refine wpAnyH_take (i := 7) (v := ?_) (by simp only [List.getElem?_toArray, List.getElem?_cons_succ, List.getElem?_cons_zero]; rfl) (by kernel_rfl) (by kernel_rfl) (by kernel_rfl) (by intros; assumption) (Or.inl ⟨by rfl, ?_⟩) hHeld ?_; rotate_left; (intro w hSw; (try dsimp only at hSw); go_simp; try with_reducible rfl)
  try simp only [Act.put, List.setIfInBounds_toArray, List.set_cons_zero, List.set_cons_succ]
  refine wpAnyH_take (i := 11) (v := ?_) (by simp only [List.getElem?_toArray, List.getElem?_cons_succ, List.getElem?_cons_zero]; rfl) (by kernel_rfl) (by kernel_rfl) (by kernel_rfl) (by intros; assumption) (Or.inl ⟨by rfl, ?_⟩) hHeld ?_; rotate_left; (intro w hSw; (try dsimp only at hSw); go_simp; try with_reducible rfl)
  try simp only [Act.put, List.setIfInBounds_toArray, List.set_cons_zero, List.set_cons_succ]
  refine wpAnyH_take (i := 12) (v := ?_) (by simp only [List.getElem?_toArray, List.getElem?_cons_succ, List.getElem?_cons_zero]; rfl) (by kernel_rfl) (by kernel_rfl) (by kernel_rfl) (by intros; assumption) (Or.inl ⟨by rfl, ?_⟩) hHeld ?_; rotate_left; (intro w hSw; (try dsimp only at hSw); go_simp; try with_reducible rfl)
  try simp only [Act.put, List.setIfInBounds_toArray, List.set_cons_zero, List.set_cons_succ]
  refine wpAnyH_take (i := 13) (v := ?_) (by simp only [List.getElem?_toArray, List.getElem?_cons_succ, List.getElem?_cons_zero]; rfl) (by kernel_rfl) (by kernel_rfl) (by kernel_rfl) (by intros; assumption) (Or.inl ⟨by rfl, ?_⟩) hHeld ?_; rotate_left; (intro w hSw; (try dsimp only at hSw); go_simp; try with_reducible rfl)
  try simp only [Act.put, List.setIfInBounds_toArray, List.set_cons_zero, List.set_cons_succ]
  refine wpAnyH_ready (rs := [3, 6]) (by kernel_rfl) (by simp) (AllReadyH.cons (by simp only [List.getElem?_toArray, List.getElem?_cons_succ, List.getElem?_cons_zero]; rfl) (fun K hK => ?_) (AllReadyH.cons (by simp only [List.getElem?_toArray, List.getElem?_cons_succ, List.getElem?_cons_zero]; rfl) (fun K hK => ?_) AllReadyH.nil))
  all_goals clear hHeld
  · go_simp
    refine hK.out _ _ trivial (fun hHeld => ?_)
    clear hK K
    try simp only [Act.put, List.setIfInBounds_toArray, List.set_cons_zero, List.set_cons_succ]
    have hl3 := World.ownsRow_made (e := 24) (size := 1) v0 #[] 0 (Nat.le_refl _) (Nat.zero_le _) rfl
    have hb3 : Below w.heap.size w (v0.alloc (.cells #[] 24)) := hb0.alloc hb0.size _
    have hl3' := own_mono hl3 hb0.size
    clear hl3
    obtain ⟨a3, ha3⟩ : ∃ a3, a3 = v0.heap.size := ⟨_, rfl⟩
    rw [← ha3] at hl3' ⊢
    generalize v0.alloc (.cells #[] 24) = v0a at *
    clear ha3
    refine wpAnyH_ready (rs := [5, 6]) (by kernel_rfl) (by simp) (AllReadyH.cons (by simp only [List.getElem?_toArray, List.getElem?_cons_succ, List.getElem?_cons_zero]; rfl) (fun K hK => ?_) (AllReadyH.cons (by simp only [List.getElem?_toArray, List.getElem?_cons_succ, List.getElem?_cons_zero]; rfl) (fun K hK => ?_) AllReadyH.nil))
    all_goals clear hHeld
    · refine step_append_from _ rfl (.tmp 31) (.tmp 32) 23 rfl w.heap.size 24 i1 _ 24 Try.underlying23 hi1 hy0 hy1 hy2 rfl (.slice (some ⟨a3, 0, none⟩) 0 0) 0 [] (by rfl) hl3' w.heap.size Al m cl xs (by rfl) hxs (hlies.below hb3) hone (by unfold maxLen; omega) (by omega) hb3.size ?_
      intro A5 c5 v0ac hl5 hg5 hat5
      simp only [Nat.zero_add, List.nil_append] at hl5 ⊢
      refine hK.out _ _ trivial (fun hHeld => ?_)
      clear hK K
      try simp only [Act.put, List.setIfInBounds_toArray, List.set_cons_zero, List.set_cons_succ]
      have hb5 := hb3.trans (below_append hl3' hg5 (Nat.le_refl _) hb3.size)
      clear hat5
      refine wpAnyH_ready (rs := [6]) (by kernel_rfl) (by simp) (AllReadyH.cons (by simp only [List.getElem?_toArray, List.getElem?_cons_succ, List.getElem?_cons_zero]; rfl) (fun K hK => ?_) AllReadyH.nil)
      clear hHeld
      go_simp
      refine hK.out _ _ trivial (fun hHeld => ?_)
      clear hK K
      try simp only [Act.put, List.setIfInBounds_toArray, List.set_cons_zero, List.set_cons_succ]
      have hm6 := World.ownsRow_made (e := 5) (size := 1) v0ac #[] 0 (Nat.le_refl _) (Nat.zero_le _) rfl
      have hb6 : Below w.heap.size w (v0ac.alloc (.cells #[] 5)) := hb5.alloc hb5.size _
      have hl6 := own_below hl5 ((Below.refl v0ac.heap.size v0ac).alloc (Nat.le_refl _) (.cells #[] 5))
      have hm6' := own_mono hm6 hb5.size
      clear hm6
      obtain ⟨a6, ha6⟩ : ∃ a6, a6 = v0ac.heap.size := ⟨_, rfl⟩
      rw [← ha6] at hm6' ⊢
      generalize v0ac.alloc (.cells #[] 5) = v0acb at *
      clear ha6
      refine wpAnyH_ready (rs := [8]) (by kernel_rfl) (by simp) (AllReadyH.cons (by simp only [List.getElem?_toArray, List.getElem?_cons_succ, List.getElem?_cons_zero]; rfl) (fun K hK => ?_) AllReadyH.nil)
      clear hHeld
      refine step_append_from _ rfl (.tmp 34) (.tmp 35) 24 rfl w.heap.size 5 i0 _ 1 Try.underlying24 hi0 hz0 hz1 hz2 rfl (.slice (some ⟨a6, 0, none⟩) 0 0) 0 [] (by rfl) hm6' w.heap.size A nb cb (bytesV b) (by rfl) hnb (hy.below hb6) (bytesV_one b) (by unfold maxLen; omega) (by omega) hb6.size ?_
      intro A6 c6 v0acbd hm8 hg8 hat8
      simp only [Nat.zero_add, List.nil_append] at hm8 ⊢
      refine hK.out _ _ trivial (fun hHeld => ?_)
      clear hK K
      try simp only [Act.put, List.setIfInBounds_toArray, List.set_cons_zero, List.set_cons_succ]
      have hb8 := hb6.trans (below_append hm6' hg8 (Nat.le_refl _) hb6.size)
      have hl8 := own_grown hl6 hm6' (by decide) hg8
      clear hat8
      refine wpAnyH_ready (rs := [9]) (by kernel_rfl) (by simp) (AllReadyH.cons (by simp only [List.getElem?_toArray, List.getElem?_cons_succ, List.getElem?_cons_zero]; rfl) (fun K hK => ?_) AllReadyH.nil)
      clear hHeld
      go_simp
      refine hK.out _ _ trivial (fun hHeld => ?_)
      clear hK K
      try simp only [Act.put, List.setIfInBounds_toArray, List.set_cons_zero, List.set_cons_succ]
      have hb9 : Below w.heap.size w (v0acbd.alloc (.cells #[.slice A6 nb c6] 24)) := hb8.alloc hb8.size _
      have hl9 := own_below hl8 ((Below.refl v0acbd.heap.size v0acbd).alloc (Nat.le_refl _) (.cells #[.slice A6 nb c6] 24))
      have hm9 := own_below hm8 ((Below.refl v0acbd.heap.size v0acbd).alloc (Nat.le_refl _) (.cells #[.slice A6 nb c6] 24))
      have h1 := Lies.one v0acbd 24 (.slice A6 nb c6)
      obtain ⟨a9, ha9⟩ : ∃ a9, a9 = v0acbd.heap.size := ⟨_, rfl⟩
      rw [← ha9] at h1 ⊢
      generalize v0acbd.alloc (.cells #[.slice A6 nb c6] 24) = v0acbde at *
      clear ha9
      refine wpAnyH_ready (rs := [10]) (by kernel_rfl) (by simp) (AllReadyH.cons (by simp only [List.getElem?_toArray, List.getElem?_cons_succ, List.getElem?_cons_zero]; rfl) (fun K hK => ?_) AllReadyH.nil)
      clear hHeld
      refine step_append_from _ rfl (.tmp 33) (.tmp 37) 23 rfl w.heap.size 24 i1 _ 24 Try.underlying23 hi1 hy0 hy1 hy2 rfl (.slice A5 m c5) m xs (by rfl) hl9 _ (some ⟨a9, 0, none⟩) 1 1 [.slice A6 nb c6] (by rfl) rfl h1 (fun u hu => by simp only [List.mem_singleton] at hu; subst hu; rfl) (by unfold maxLen; omega) (by omega) hb9.size ?_
      intro A10 c10 W10 hl10 hg10 hat10
      refine hK.out _ _ trivial (fun hHeld => ?_)
      clear hK K
      try simp only [Act.put, List.setIfInBounds_toArray, List.set_cons_zero, List.set_cons_succ]
      have hb10 := hb9.trans (below_append hl9 hg10 (Nat.le_refl _) hb9.size)
      have hm10 := own_grown hm9 hl9 (by decide) hg10
      clear hat10
      have hq := hqb.below hb10 hqlt
      have cq := hq.cell (1 + f * 16 + t)
      have fq := hq.free (1 + f * 16 + t)
      rw [hcs] at cq
      obtain ⟨r1, r2⟩ := FIN.out W10 A10 c10 A6 c6 hb10 hl10 hm10
      refine wpAnyH_take (i := 14) (v := ?_) (by simp only [List.getElem?_toArray, List.getElem?_cons_succ, List.getElem?_cons_zero]; rfl) (by kernel_rfl) (by kernel_rfl) (by kernel_rfl) (by intros; assumption) (Or.inl ⟨by rfl, ?_⟩) hHeld ?_; rotate_left; (intro w hSw; (try dsimp only at hSw); go_simp; try with_reducible rfl)
      try simp only [Act.put, List.setIfInBounds_toArray, List.set_cons_zero, List.set_cons_succ]
      refine wpAnyH_ready (rs := [15]) (by kernel_rfl) (by simp) (AllReadyH.cons (by simp only [List.getElem?_toArray, List.getElem?_cons_succ, List.getElem?_cons_zero]; rfl) (fun K hK => ?_) AllReadyH.nil)
      clear hHeld
      go_simp
      refine hK.out _ _ trivial (fun hHeld => ?_)
      clear hK K
      try simp only [Act.put, List.setIfInBounds_toArray, List.set_cons_zero, List.set_cons_succ]
      refine wpAnyH_done (by kernel_rfl) ?_ _
      go_wp2_with fail
      go_ret
      exact ⟨rfl, r1, r2⟩
    · go_simp
      refine hK.out _ _ trivial (fun hHeld => ?_)
      clear hK K
      try simp only [Act.put, List.setIfInBounds_toArray, List.set_cons_zero, List.set_cons_succ]
      have hm6 := World.ownsRow_made (e := 5) (size := 1) v0a #[] 0 (Nat.le_refl _) (Nat.zero_le _) rfl
      have hb6 : Below w.heap.size w (v0a.alloc (.cells #[] 5)) := hb3.alloc hb3.size _
      have hl6 := own_below hl3' ((Below.refl v0a.heap.size v0a).alloc (Nat.le_refl _) (.cells #[] 5))
      have hm6' := own_mono hm6 hb3.size
      clear hm6
      obtain ⟨a6, ha6⟩ : ∃ a6, a6 = v0a.heap.size := ⟨_, rfl⟩
      rw [← ha6] at hm6' ⊢
      generalize v0a.alloc (.cells #[] 5) = v0ab at *
      clear ha6
      refine wpAnyH_ready (rs := [5]) (by kernel_rfl) (by simp) (AllReadyH.cons (by simp only [List.getElem?_toArray, List.getElem?_cons_succ, List.getElem?_cons_zero]; rfl) (fun K hK => ?_) AllReadyH.nil)
      clear hHeld
      refine step_append_from _ rfl (.tmp 31) (.tmp 32) 23 rfl w.heap.size 24 i1 _ 24 Try.underlying23 hi1 hy0 hy1 hy2 rfl (.slice (some ⟨a3, 0, none⟩) 0 0) 0 [] (by rfl) hl6 w.heap.size Al m cl xs (by rfl) hxs (hlies.below hb6) hone (by unfold maxLen; omega) (by omega) hb6.size ?_
      intro A5 c5 v0abc hl5 hg5 hat5
      simp only [Nat.zero_add, List.nil_append] at hl5 ⊢
      refine hK.out _ _ trivial (fun hHeld => ?_)
      clear hK K
      try simp only [Act.put, List.setIfInBounds_toArray, List.set_cons_zero, List.set_cons_succ]
      have hb5 := hb6.trans (below_append hl6 hg5 (Nat.le_refl _) hb6.size)
      have hm5 := own_grown hm6' hl6 (by decide) hg5
      clear hat5
      refine wpAnyH_ready (rs := [8]) (by kernel_rfl) (by simp) (AllReadyH.cons (by simp only [List.getElem?_toArray, List.getElem?_cons_succ, List.getElem?_cons_zero]; rfl) (fun K hK => ?_) AllReadyH.nil)
      clear hHeld
      refine step_append_from _ rfl (.tmp 34) (.tmp 35) 24 rfl w.heap.size 5 i0 _ 1 Try.underlying24 hi0 hz0 hz1 hz2 rfl (.slice (some ⟨a6, 0, none⟩) 0 0) 0 [] (by rfl) hm5 w.heap.size A nb cb (bytesV b) (by rfl) hnb (hy.below hb5) (bytesV_one b) (by unfold maxLen; omega) (by omega) hb5.size ?_
      intro A6 c6 v0abcd hm8 hg8 hat8
      simp only [Nat.zero_add, List.nil_append] at hm8 ⊢
      refine hK.out _ _ trivial (fun hHeld => ?_)
      clear hK K
      try simp only [Act.put, List.setIfInBounds_toArray, List.set_cons_zero, List.set_cons_succ]
      have hb8 := hb5.trans (below_append hm5 hg8 (Nat.le_refl _) hb5.size)
      have hl8 := own_grown hl5 hm5 (by decide) hg8
      clear hat8
      refine wpAnyH_ready (rs := [9]) (by kernel_rfl) (by simp) (AllReadyH.cons (by simp only [List.getElem?_toArray, List.getElem?_cons_succ, List.getElem?_cons_zero]; rfl) (fun K hK => ?_) AllReadyH.nil)
      clear hHeld
      go_simp
      refine hK.out _ _ trivial (fun hHeld => ?_)
      clear hK K
      try simp only [Act.put, List.setIfInBounds_toArray, List.set_cons_zero, List.set_cons_succ]
      have hb9 : Below w.heap.size w (v0abcd.alloc (.cells #[.slice A6 nb c6] 24)) := hb8.alloc hb8.size _
      have hl9 := own_below hl8 ((Below.refl v0abcd.heap.size v0abcd).alloc (Nat.le_refl _) (.cells #[.slice A6 nb c6] 24))
      have hm9 := own_below hm8 ((Below.refl v0abcd.heap.size v0abcd).alloc (Nat.le_refl _) (.cells #[.slice A6 nb c6] 24))
      have h1 := Lies.one v0abcd 24 (.slice A6 nb c6)
      obtain ⟨a9, ha9⟩ : ∃ a9, a9 = v0abcd.heap.size := ⟨_, rfl⟩
      rw [← ha9] at h1 ⊢
      generalize v0abcd.alloc (.cells #[.slice A6 nb c6] 24) = v0abcde at *
      clear ha9
      refine wpAnyH_ready (rs := [10]) (by kernel_rfl) (by simp) (AllReadyH.cons (by simp only [List.getElem?_toArray, List.getElem?_cons_succ, List.getElem?_cons_zero]; rfl) (fun K hK => ?_) AllReadyH.nil)
      clear hHeld
      refine step_append_from _ rfl (.tmp 33) (.tmp 37) 23 rfl w.heap.size 24 i1 _ 24 Try.underlying23 hi1 hy0 hy1 hy2 rfl (.slice A5 m c5) m xs (by rfl) hl9 _ (some ⟨a9, 0, none⟩) 1 1 [.slice A6 nb c6] (by rfl) rfl h1 (fun u hu => by simp only [List.mem_singleton] at hu; subst hu; rfl) (by unfold maxLen; omega) (by omega) hb9.size ?_
      intro A10 c10 W10 hl10 hg10 hat10
      refine hK.out _ _ trivial (fun hHeld => ?_)
      clear hK K
      try simp only [Act.put, List.setIfInBounds_toArray, List.set_cons_zero, List.set_cons_succ]
      have hb10 := hb9.trans (below_append hl9 hg10 (Nat.le_refl _) hb9.size)
      have hm10 := own_grown hm9 hl9 (by decide) hg10
      clear hat10
      have hq := hqb.below hb10 hqlt
      have cq := hq.cell (1 + f * 16 + t)
      have fq := hq.free (1 + f * 16 + t)
      rw [hcs] at cq
      obtain ⟨r1, r2⟩ := FIN.out W10 A10 c10 A6 c6 hb10 hl10 hm10
      refine wpAnyH_take (i := 14) (v := ?_) (by simp only [List.getElem?_toArray, List.getElem?_cons_succ, List.getElem?_cons_zero]; rfl) (by kernel_rfl) (by kernel_rfl) (by kernel_rfl) (by intros; assumption) (Or.inl ⟨by rfl, ?_⟩) hHeld ?_; rotate_left; (intro w hSw; (try dsimp only at hSw); go_simp; try with_reducible rfl)
      try simp only [Act.put, List.setIfInBounds_toArray, List.set_cons_zero, List.set_cons_succ]
      refine wpAnyH_ready (rs := [15]) (by kernel_rfl) (by simp) (AllReadyH.cons (by simp only [List.getElem?_toArray, List.getElem?_cons_succ, List.getElem?_cons_zero]; rfl) (fun K hK => ?_) AllReadyH.nil)
      clear hHeld
      go_simp
      refine hK.out _ _ trivial (fun hHeld => ?_)
      clear hK K
      try simp only [Act.put, List.setIfInBounds_toArray, List.set_cons_zero, List.set_cons_succ]
      refine wpAnyH_done (by kernel_rfl) ?_ _
      go_wp2_with fail
      go_ret
      exact ⟨rfl, r1, r2⟩
  · go_simp
    refine hK.out _ _ trivial (fun hHeld => ?_)
    clear hK K
    try simp only [Act.put, List.setIfInBounds_toArray, List.set_cons_zero, List.set_cons_succ]
    have hm6 := World.ownsRow_made (e := 5) (size := 1) v0 #[] 0 (Nat.le_refl _) (Nat.zero_le _) rfl
    have hb6 : Below w.heap.size w (v0.alloc (.cells #[] 5)) := hb0.alloc hb0.size _
    have hm6' := own_mono hm6 hb0.size
    clear hm6
    obtain ⟨a6, ha6⟩ : ∃ a6, a6 = v0.heap.size := ⟨_, rfl⟩
    rw [← ha6] at hm6' ⊢
    generalize v0.alloc (.cells #[] 5) = v0b at *
    clear ha6
    refine wpAnyH_ready (rs := [3]) (by kernel_rfl) (by simp) (AllReadyH.cons (by simp only [List.getElem?_toArray, List.getElem?_cons_succ, List.getElem?_cons_zero]; rfl) (fun K hK => ?_) AllReadyH.nil)
    clear hHeld
    go_simp
    refine hK.out _ _ trivial (fun hHeld => ?_)
    clear hK K
    try simp only [Act.put, List.setIfInBounds_toArray, List.set_cons_zero, List.set_cons_succ]
    have hl3 := World.ownsRow_made (e := 24) (size := 1) v0b #[] 0 (Nat.le_refl _) (Nat.zero_le _) rfl
    have hb3 : Below w.heap.size w (v0b.alloc (.cells #[] 24)) := hb6.alloc hb6.size _
    have hm4 := own_below hm6' ((Below.refl v0b.heap.size v0b).alloc (Nat.le_refl _) (.cells #[] 24))
    have hl3' := own_mono hl3 hb6.size
    clear hl3
    obtain ⟨a3, ha3⟩ : ∃ a3, a3 = v0b.heap.size := ⟨_, rfl⟩
    rw [← ha3] at hl3' ⊢
    generalize v0b.alloc (.cells #[] 24) = v0ba at *
    clear ha3
    refine wpAnyH_ready (rs := [5]) (by kernel_rfl) (by simp) (AllReadyH.cons (by simp only [List.getElem?_toArray, List.getElem?_cons_succ, List.getElem?_cons_zero]; rfl) (fun K hK => ?_) AllReadyH.nil)
    clear hHeld
    refine step_append_from _ rfl (.tmp 31) (.tmp 32) 23 rfl w.heap.size 24 i1 _ 24 Try.underlying23 hi1 hy0 hy1 hy2 rfl (.slice (some ⟨a3, 0, none⟩) 0 0) 0 [] (by rfl) hl3' w.heap.size Al m cl xs (by rfl) hxs (hlies.below hb3) hone (by unfold maxLen; omega) (by omega) hb3.size ?_
    intro A5 c5 v0bac hl5 hg5 hat5
    simp only [Nat.zero_add, List.nil_append] at hl5 ⊢
    refine hK.out _ _ trivial (fun hHeld => ?_)
    clear hK K
    try simp only [Act.put, List.setIfInBounds_toArray, List.set_cons_zero, List.set_cons_succ]
    have hb5 := hb3.trans (below_append hl3' hg5 (Nat.le_refl _) hb3.size)
    have hm5 := own_grown hm4 hl3' (by decide) hg5
    clear hat5
    refine wpAnyH_ready (rs := [8]) (by kernel_rfl) (by simp) (AllReadyH.cons (by simp only [List.getElem?_toArray, List.getElem?_cons_succ, List.getElem?_cons_zero]; rfl) (fun K hK => ?_) AllReadyH.nil)
    clear hHeld
    refine step_append_from _ rfl (.tmp 34) (.tmp 35) 24 rfl w.heap.size 5 i0 _ 1 Try.underlying24 hi0 hz0 hz1 hz2 rfl (.slice (some ⟨a6, 0, none⟩) 0 0) 0 [] (by rfl) hm5 w.heap.size A nb cb (bytesV b) (by rfl) hnb (hy.below hb5) (bytesV_one b) (by unfold maxLen; omega) (by omega) hb5.size ?_
    intro A6 c6 v0bacd hm8 hg8 hat8
    simp only [Nat.zero_add, List.nil_append] at hm8 ⊢
    refine hK.out _ _ trivial (fun hHeld => ?_)
    clear hK K
    try simp only [Act.put, List.setIfInBounds_toArray, List.set_cons_zero, List.set_cons_succ]
    have hb8 := hb5.trans (below_append hm5 hg8 (Nat.le_refl _) hb5.size)
    have hl8 := own_grown hl5 hm5 (by decide) hg8
    clear hat8
    refine wpAnyH_ready (rs := [9]) (by kernel_rfl) (by simp) (AllReadyH.cons (by simp only [List.getElem?_toArray, List.getElem?_cons_succ, List.getElem?_cons_zero]; rfl) (fun K hK => ?_) AllReadyH.nil)
    clear hHeld
    go_simp
    refine hK.out _ _ trivial (fun hHeld => ?_)
    clear hK K
    try simp only [Act.put, List.setIfInBounds_toArray, List.set_cons_zero, List.set_cons_succ]
    have hb9 : Below w.heap.size w (v0bacd.alloc (.cells #[.slice A6 nb c6] 24)) := hb8.alloc hb8.size _
    have hl9 := own_below hl8 ((Below.refl v0bacd.heap.size v0bacd).alloc (Nat.le_refl _) (.cells #[.slice A6 nb c6] 24))
    have hm9 := own_below hm8 ((Below.refl v0bacd.heap.size v0bacd).alloc (Nat.le_refl _) (.cells #[.slice A6 nb c6] 24))
    have h1 := Lies.one v0bacd 24 (.slice A6 nb c6)
    obtain ⟨a9, ha9⟩ : ∃ a9, a9 = v0bacd.heap.size := ⟨_, rfl⟩
    rw [← ha9] at h1 ⊢
    generalize v0bacd.alloc (.cells #[.slice A6 nb c6] 24) = v0bacde at *
    clear ha9
    refine wpAnyH_ready (rs := [10]) (by kernel_rfl) (by simp) (AllReadyH.cons (by simp only [List.getElem?_toArray, List.getElem?_cons_succ, List.getElem?_cons_zero]; rfl) (fun K hK => ?_) AllReadyH.nil)
    clear hHeld
    refine step_append_from _ rfl (.tmp 33) (.tmp 37) 23 rfl w.heap.size 24 i1 _ 24 Try.underlying23 hi1 hy0 hy1 hy2 rfl (.slice A5 m c5) m xs (by rfl) hl9 _ (some ⟨a9, 0, none⟩) 1 1 [.slice A6 nb c6] (by rfl) rfl h1 (fun u hu => by simp only [List.mem_singleton] at hu; subst hu; rfl) (by unfold maxLen; omega) (by omega) hb9.size ?_
    intro A10 c10 W10 hl10 hg10 hat10
    refine hK.out _ _ trivial (fun hHeld => ?_)
    clear hK K
    try simp only [Act.put, List.setIfInBounds_toArray, List.set_cons_zero, List.set_cons_succ]
    have hb10 := hb9.trans (below_append hl9 hg10 (Nat.le_refl _) hb9.size)
    have hm10 := own_grown hm9 hl9 (by decide) hg10
    clear hat10
    have hq := hqb.below hb10 hqlt
    have cq := hq.cell (1 + f * 16 + t)
    have fq := hq.free (1 + f * 16 + t)
    rw [hcs] at cq
    obtain ⟨r1, r2⟩ := FIN.out W10 A10 c10 A6 c6 hb10 hl10 hm10
    refine wpAnyH_take (i := 14) (v := ?_) (by simp only [List.getElem?_toArray, List.getElem?_cons_succ, List.getElem?_cons_zero]; rfl) (by kernel_rfl) (by kernel_rfl) (by kernel_rfl) (by intros; assumption) (Or.inl ⟨by rfl, ?_⟩) hHeld ?_; rotate_left; (intro w hSw; (try dsimp only at hSw); go_simp; try with_reducible rfl)
    try simp only [Act.put, List.setIfInBounds_toArray, List.set_cons_zero, List.set_cons_succ]
    refine wpAnyH_ready (rs := [15]) (by kernel_rfl) (by simp) (AllReadyH.cons (by simp only [List.getElem?_toArray, List.getElem?_cons_succ, List.getElem?_cons_zero]; rfl) (fun K hK => ?_) AllReadyH.nil)
    clear hHeld
    go_simp
    refine hK.out _ _ trivial (fun hHeld => ?_)
    clear hK K
    try simp only [Act.put, List.setIfInBounds_toArray, List.set_cons_zero, List.set_cons_succ]
    refine wpAnyH_done (by kernel_rfl) ?_ _
    go_wp2_with fail
    go_ret
    exact ⟨rfl, r1, r2⟩
end
end Go.Proofs.Ytbniaojldjhemaa
