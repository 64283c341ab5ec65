/- The walk of the reference's Take. -/
import Derived.Test.YtbniaojldjhemaaRefSend
namespace Go.Proofs.Ytbniaojldjhemaa
open Go.Conc Go.RowKit Go.Maps

section
variable (w : World) (base qr n : Nat) (p : Nat → Nat) (M : Nat → Nat → List (List UInt8)) (h : RefAt w base qr n p M)
include h
theorem texts_tail {W : World} {m : Nat} {xs : List Value} {f t : Nat} {l0 : List UInt8} {ls : List (List UInt8)} {lb lo : Nat} {A0 : Option Addr} {c0 : Nat} (hf : f < 16) (ht : t < 16) (hm : ls.length = m) (hxs : xs.length = m + 1) (hlb : lb ≠ qr)
    (hc : ∀ j u, xs[j]? = some u → w.cell? ⟨lb, lo + j, none⟩ = some u) (h0 : xs[0]? = some (.slice A0 l0.length c0)) (hy0 : Bytes w w.heap.size A0 l0)
    (hel : ∀ (i : Nat) (u : Value) (s : List UInt8), xs[i]? = some u → (l0 :: ls)[i]? = some s → ∃ A' c', u = .slice A' s.length c' ∧ Bytes w w.heap.size A' s) (A8 : Option Addr) (c8 : Nat)
    (hb : Below w.heap.size w W) (hl : W.ownsRow w.heap.size 24 1 (.slice A8 m c8) m (xs.drop 1)) :
    RefAt (W.setCell ⟨qr, 1 + f * 16 + t, none⟩ (.slice A8 m c8)) base qr n p (upd M f t ls) ∧ w.grownBy (W.setCell ⟨qr, 1 + f * 16 + t, none⟩ (.slice A8 m c8)) (some qr) ∧
      (W.setCell ⟨qr, 1 + f * 16 + t, none⟩ (.slice A8 m c8)).cell? ⟨lb, lo, none⟩ = some (.slice A0 l0.length c0) ∧ Bytes (W.setCell ⟨qr, 1 + f * 16 + t, none⟩ (.slice A8 m c8)) (W.setCell ⟨qr, 1 + f * 16 + t, none⟩ (.slice A8 m c8)).heap.size A0 l0 := by
  have hW := h.below hb
  obtain ⟨cs, hbq, _⟩ := hW.blk
  have hT : TextsOff W qr A8 ls := by
    refine ⟨xs.drop 1, ?_, by simp [hxs, hm], fun i u s hu hs => ?_⟩
    · by_cases hm0 : m = 0
      · left
        have : (xs.drop 1).length = 0 := by simp [hxs, hm0]
        exact List.eq_nil_of_length_eq_zero this
      · obtain ⟨g, rfl, _, hlt, _, hc, _⟩ := own_addr hl (by omega)
        refine .inr ⟨g, 0, rfl, hlt, fun e => ?_, fun j u hu => by rw [Nat.zero_add]; exact hc j u hu⟩
        subst e
        exact hbq.ne_own hl (by decide) rfl
    · rw [List.getElem?_drop, Nat.add_comm] at hu
      obtain ⟨A', c', e, hy⟩ := hel (i + 1) u s hu (by rw [List.getElem?_cons_succ]; exact hs)
      exact ⟨A', c', e, (hy.below hb).more hb.size⟩
  have := hW.set (f := f) (t := t) hf ht (A := A8) (c := c8) (ls := ls) (by rw [hm]; exact own_cap hl) hT
  rw [hm] at this
  have hg := grown_trans (grown_below hb (Nat.le_refl _) _) this.2
  refine ⟨this.1, hg, ?_, hy0.off h hg⟩
  have := hc 0 _ h0
  exact cell_grown hg (a := ⟨lb, lo, none⟩) hlb this

set_option maxRecDepth 100000 in
set_option maxHeartbeats 4000000 in
theorem rtake_first (f t : Nat) (hf : f < n) (ht : t < n) (hl : ((par p f == t) || (par p t == f)) = true) (l0 : List UInt8) (ls : List (List UInt8)) (hM : M f t = l0 :: ls) (h8 : ls.length < 8) :
    Calls Try.prog 30 #[.pointer (some ⟨qr, 0, none⟩), .int .i64 f, .int .i64 t] w fun e w' => ∃ A' c', e = .returned (.tuple #[.slice A' l0.length c', .int .i64 0]) ∧ Bytes w' w'.heap.size A' l0 ∧ RefAt w' base qr n p (upd M f t ls) ∧ w.grownBy w' (some qr) := by
  obtain ⟨i1, hi1, hy0, hy1, hy2⟩ := info_parts Try.info24
  obtain ⟨bk, off, cp, c0, _, _, hn⟩ := h.par_cell
  obtain ⟨Al, cl, cr, hmc, xs, hli, hxs0, hel⟩ := h.rows f t (by omega) (by omega)
  rw [hM] at hxs0 cr hmc hel
  obtain ⟨m, hm⟩ : ∃ m, m = ls.length := ⟨_, rfl⟩
  have e1 : (f : Int) < 16 := by omega
  have e2 : (t : Int) < 16 := by omega
  have hlk := rlink_near w base qr n p M h f t hf ht
  rw [hl] at hlk
  rw [List.length_cons, ← hm] at hxs0 cr hmc
  rw [← hm] at h8
  obtain ⟨cs, hqb, hcs0⟩ := h.blk
  obtain ⟨lb, lo, rfl, hlt, hlq, hlc⟩ : ∃ lb lo, Al = some ⟨lb, lo, none⟩ ∧ lb < w.heap.size ∧ lb ≠ qr ∧ ∀ j u, xs[j]? = some u → w.cell? ⟨lb, lo + j, none⟩ = some u := by
    rcases hli with e | ⟨lb, lo, e1, e2, e3, e4⟩
    · rw [e] at hxs0
      simp at hxs0
    · exact ⟨lb, lo, e1, e2, e3, e4⟩
  obtain ⟨A0, c0', hx0, hyb0⟩ := hel 0 xs[0] l0 (List.getElem?_eq_getElem (by omega)) rfl
  have hx0' : xs[0]? = some (.slice A0 l0.length c0') := by rw [List.getElem?_eq_getElem (by omega), hx0]
  have FIN : Hid (∀ (W : World) (A8 : Option Addr) (c8 : Nat), Below w.heap.size w W → W.ownsRow w.heap.size 24 1 (.slice A8 m c8) m (xs.drop 1) →
    RefAt (W.setCell ⟨qr, 1 + f * 16 + t, none⟩ (.slice A8 m c8)) base qr n p (upd M f t ls) ∧ w.grownBy (W.setCell ⟨qr, 1 + f * 16 + t, none⟩ (.slice A8 m c8)) (some qr) ∧
      (W.setCell ⟨qr, 1 + f * 16 + t, none⟩ (.slice A8 m c8)).cell? ⟨lb, lo, none⟩ = some (.slice A0 l0.length c0') ∧ Bytes (W.setCell ⟨qr, 1 + f * 16 + t, none⟩ (.slice A8 m c8)) (W.setCell ⟨qr, 1 + f * 16 + t, none⟩ (.slice A8 m c8)).heap.size A0 l0) :=
    fun W A8 c8 k1 k2 => texts_tail w base qr n p M h (by omega) (by omega) hm.symm hxs0 hlq hlc hx0' hyb0 hel A8 c8 k1 k2
  have hlies1 : Lies w w.heap.size (if cl = 1 then some ⟨lb, lo, none⟩ else some ⟨lb, lo + 1, none⟩) (xs.drop 1) := by
    by_cases e : cl = 1
    · left
      exact List.eq_nil_of_length_eq_zero (by rw [List.length_drop]; omega)
    · refine .inr ⟨lb, lo + 1, if_neg e, hlt, fun j u hu => ?_⟩
      rw [List.getElem?_drop] at hu
      rw [Nat.add_assoc]
      exact hlc _ u hu
  have hxs1 : (xs.drop 1).length = m := by simp [hxs0]
  have hone1 : ∀ u ∈ xs.drop 1, u.oneCell' = true := fun u hu => by
    obtain ⟨i, hi, rfl⟩ := List.getElem_of_mem (List.mem_of_mem_drop hu)
    obtain ⟨_, _, e, _⟩ := hel i xs[i] _ (List.getElem?_eq_getElem hi) (List.getElem?_eq_getElem (by simp; omega))
    rw [e]
    rfl
  have hqlt : qr < w.heap.size := hqb.lt
  have hcs : cs[1 + f * 16 + t]? = some (.slice (some ⟨lb, lo, none⟩) (m + 1) cl) := by rw [← hqb.cell]; exact cr
  have g0 : (((m + 1 : Nat) : Int) == 0) = false := by rw [beq_eq_false_iff_ne]; omega
  have hm1 : (1 : Int) ≤ (m : Int) + 1 := by omega
  clear hl hx0 hx0' hli hel hcs0 hm hxs0 hM
  go_enter Try.func30, Try.ntmps30
  go_wp2_with fail
  refine hlk.mono ?_
  rintro e w1 ⟨rfl, rfl⟩
  go_wp2_with fail
  refine wp_region_held_drew (S := fun _ => True) (by kernel_rfl) trivial (fun hHeld => ?_)
  obtain ⟨v0, hv0⟩ : ∃ v0, v0 = w.drew := ⟨_, rfl⟩
  rw [← hv0]
  have hb0 : Below w.heap.size w v0 := by rw [hv0]; exact below_draws (n := 1) (Below.refl _ w)
  clear hv0
  refine wpAnyH_take (i := 0) (v := ?_) (by simp only [List.getElem?_toArray, List.getElem?_cons_zero]; rfl) (by kernel_rfl) (by kernel_rfl) (by kernel_rfl) (by intros; assumption) (Or.inl ⟨by rfl, ?_⟩) hHeld ?_; rotate_left; (intro w hSw; (try dsimp only at hSw); go_simp; try with_reducible rfl)
  try simp only [Act.put, List.setIfInBounds_toArray, List.set_cons_zero, List.set_cons_succ]
  refine wpAnyH_take (i := 1) (v := ?_) (by simp only [List.getElem?_toArray, List.getElem?_cons_succ, List.getElem?_cons_zero]; rfl) (by kernel_rfl) (by kernel_rfl) (by kernel_rfl) (by intros; assumption) (Or.inl ⟨by rfl, ?_⟩) hHeld ?_; rotate_left; (intro w hSw; (try dsimp only at hSw); go_simp; try with_reducible rfl)
  try simp only [Act.put, List.setIfInBounds_toArray, List.set_cons_zero, List.set_cons_succ]
  refine wpAnyH_take (i := 2) (v := ?_) (by simp only [List.getElem?_toArray, List.getElem?_cons_succ, List.getElem?_cons_zero]; rfl) (by kernel_rfl) (by kernel_rfl) (by kernel_rfl) (by intros; assumption) (Or.inl ⟨by rfl, ?_⟩) hHeld ?_; rotate_left; (intro w hSw; (try dsimp only at hSw); go_simp; try with_reducible rfl)
  try simp only [Act.put, List.setIfInBounds_toArray, List.set_cons_zero, List.set_cons_succ]
  refine wpAnyH_take (i := 4) (v := ?_) (by simp only [List.getElem?_toArray, List.getElem?_cons_succ, List.getElem?_cons_zero]; rfl) (by kernel_rfl) (by kernel_rfl) (by kernel_rfl) (by intros; assumption) (Or.inl ⟨by rfl, ?_⟩) hHeld ?_; rotate_left; (intro w hSw; (try dsimp only at hSw); go_simp; try with_reducible rfl)
  try simp only [Act.put, List.setIfInBounds_toArray, List.set_cons_zero, List.set_cons_succ]
  refine wpAnyH_take (i := 5) (v := ?_) (by simp only [List.getElem?_toArray, List.getElem?_cons_succ, List.getElem?_cons_zero]; rfl) (by kernel_rfl) (by kernel_rfl) (by kernel_rfl) (by intros; assumption) (Or.inl ⟨by rfl, ?_⟩) hHeld ?_; rotate_left; (intro w hSw; (try dsimp only at hSw); go_simp; try with_reducible rfl)
  try simp only [Act.put, List.setIfInBounds_toArray, List.set_cons_zero, List.set_cons_succ]
  refine wpAnyH_take (i := 7) (v := ?_) (by simp only [List.getElem?_toArray, List.getElem?_cons_succ, List.getElem?_cons_zero]; rfl) (by kernel_rfl) (by kernel_rfl) (by kernel_rfl) (by intros; assumption) (Or.inl ⟨by rfl, ?_⟩) hHeld ?_; rotate_left; (intro w hSw; (try dsimp only at hSw); go_simp; try with_reducible rfl)
  try simp only [Act.put, List.setIfInBounds_toArray, List.set_cons_zero, List.set_cons_succ]
  refine wpAnyH_take (i := 8) (v := ?_) (by simp only [List.getElem?_toArray, List.getElem?_cons_succ, List.getElem?_cons_zero]; rfl) (by kernel_rfl) (by kernel_rfl) (by kernel_rfl) (by intros; assumption) (Or.inl ⟨by rfl, ?_⟩) hHeld ?_; rotate_left; (intro w hSw; (try dsimp only at hSw); go_simp; try with_reducible rfl)
  try simp only [Act.put, List.setIfInBounds_toArray, List.set_cons_zero, List.set_cons_succ]
  refine wpAnyH_take (i := 9) (v := ?_) (by simp only [List.getElem?_toArray, List.getElem?_cons_succ, List.getElem?_cons_zero]; rfl) (by kernel_rfl) (by kernel_rfl) (by kernel_rfl) (by intros; assumption) (Or.inl ⟨by rfl, ?_⟩) hHeld ?_; rotate_left; (intro w hSw; (try dsimp only at hSw); go_simp; try with_reducible rfl)
  try simp only [Act.put, List.setIfInBounds_toArray, List.set_cons_zero, List.set_cons_succ]
  refine wpAnyH_ready (rs := [3]) (by kernel_rfl) (by simp) (AllReadyH.cons (by simp only [List.getElem?_toArray, List.getElem?_cons_succ, List.getElem?_cons_zero]; rfl) (fun K hK => ?_) AllReadyH.nil)
  clear hHeld
  go_simp
  refine hK.out _ _ trivial (fun hHeld => ?_)
  clear hK K
  try simp only [Act.put, List.setIfInBounds_toArray, List.set_cons_zero, List.set_cons_succ]
  have hl3 := World.ownsRow_made (e := 24) (size := 1) v0 #[] 0 (Nat.le_refl _) (Nat.zero_le _) rfl
  have hb3 : Below w.heap.size w (v0.alloc (.cells #[] 24)) := hb0.alloc hb0.size _
  have hl3' := own_mono hl3 hb0.size
  clear hl3
  obtain ⟨a3, ha3⟩ : ∃ a3, a3 = v0.heap.size := ⟨_, rfl⟩
  rw [← ha3] at hl3' ⊢
  generalize v0.alloc (.cells #[] 24) = v1 at *
  clear ha3
  refine wpAnyH_ready (rs := [6]) (by kernel_rfl) (by simp) (AllReadyH.cons (by simp only [List.getElem?_toArray, List.getElem?_cons_succ, List.getElem?_cons_zero]; rfl) (fun K hK => ?_) AllReadyH.nil)
  clear hHeld
  refine step_append_from _ rfl (.tmp 30) (.tmp 32) 23 rfl w.heap.size 24 i1 _ 24 Try.underlying23 hi1 hy0 hy1 hy2 rfl (.slice (some ⟨a3, 0, none⟩) 0 0) 0 [] (by rfl) hl3' w.heap.size (if cl = 1 then some ⟨lb, lo, none⟩ else some ⟨lb, lo + 1, none⟩) m (cl - 1) (xs.drop 1) (by first | rfl | simp [Act.eval]) hxs1 (hlies1.below hb3) hone1 (by unfold maxLen; omega) (by omega) hb3.size ?_
  intro A5 c5 W10 hl5 hg5 hat5
  simp only [Nat.zero_add, List.nil_append] at hl5 ⊢
  refine hK.out _ _ trivial (fun hHeld => ?_)
  clear hK K
  try simp only [Act.put, List.setIfInBounds_toArray, List.set_cons_zero, List.set_cons_succ]
  have hb5 := hb3.trans (below_append hl3' hg5 (Nat.le_refl _) hb3.size)
  clear hat5
  have hq := hqb.below hb5 hqlt
  have cq := hq.cell (1 + f * 16 + t)
  have fq := hq.free (1 + f * 16 + t)
  rw [hcs] at cq
  obtain ⟨r1, r2, r3, r4⟩ := FIN.out W10 A5 c5 hb5 hl5
  refine wpAnyH_take (i := 10) (v := ?_) (by simp only [List.getElem?_toArray, List.getElem?_cons_succ, List.getElem?_cons_zero]; rfl) (by kernel_rfl) (by kernel_rfl) (by kernel_rfl) (by intros; assumption) (Or.inl ⟨by rfl, ?_⟩) hHeld ?_; rotate_left; (intro w hSw; (try dsimp only at hSw); go_simp; try with_reducible rfl)
  try simp only [Act.put, List.setIfInBounds_toArray, List.set_cons_zero, List.set_cons_succ]
  refine wpAnyH_ready (rs := [11]) (by kernel_rfl) (by simp) (AllReadyH.cons (by simp only [List.getElem?_toArray, List.getElem?_cons_succ, List.getElem?_cons_zero]; rfl) (fun K hK => ?_) AllReadyH.nil)
  clear hHeld
  go_simp
  refine hK.out _ _ trivial (fun hHeld => ?_)
  clear hK K
  try simp only [Act.put, List.setIfInBounds_toArray, List.set_cons_zero, List.set_cons_succ]
  refine wpAnyH_done (by kernel_rfl) ?_ _
  generalize W10.setCell ⟨qr, 1 + f * 16 + t, none⟩ (.slice A5 m c5) = W11 at *
  go_wp2_with fail
  all_goals go_ret2
  all_goals exact ⟨A0, ⟨c0', rfl⟩, r4, r1, r2⟩
end
end Go.Proofs.Ytbniaojldjhemaa
