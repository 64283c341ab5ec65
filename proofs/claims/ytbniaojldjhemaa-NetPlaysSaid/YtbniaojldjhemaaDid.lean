/- The walk of did: the net and the reference answer the same. -/
import Derived.Test.YtbniaojldjhemaaBoth
import Derived.Deep.RegionHeld3
namespace Go.Proofs.Ytbniaojldjhemaa
open Go.Conc Go.RowKit Go.Maps

theorem Both.lo {X : Fix} {w : World} (h : Both X w) : X.base ≤ X.qr := by
  obtain ⟨Q, M, _, h2, _⟩ := h.ex
  exact h2.lo
theorem Both.qlt {X : Fix} {w : World} (h : Both X w) : X.qr < w.heap.size := by
  obtain ⟨Q, M, _, h2, _⟩ := h.ex
  obtain ⟨cs, hb, _⟩ := h2.blk
  exact hb.lt
/-- Blocks of cells stay, but the reference's own. -/
def Stays (X : Fix) (w w' : World) : Prop := ∀ k t cs, Blk w k t cs → k ≠ X.qr → Blk w' k t cs
theorem below_undrew {B : Nat} {w w' : World} (h : Below B w.drew w') : Below B w w' := ⟨h.os, h.tape, h.output, h.size, h.block⟩
theorem three {w : World} {cb nb c : Nat} {k f t : Int} {A : Option Addr} (h : Blk w cb 46 #[.int .i64 k, .int .i64 f, .int .i64 t, .slice A nb c]) : w.cell? ⟨cb, 1, none⟩ = some (.int .i64 f) ∧ w.cell? ⟨cb, 2, none⟩ = some (.int .i64 t) ∧ w.cell? ⟨cb, 3, none⟩ = some (.slice A nb c) := by
  refine ⟨?_, ?_, ?_⟩ <;> (rw [h.cell]; rfl)

set_option maxRecDepth 100000 in
set_option maxHeartbeats 2000000 in
theorem did_send (X : Fix) (w : World) (h : Both X w) (k f t : Int) (wf : (Lit.int .i64 f).wf = true) (wt : (Lit.int .i64 t).wf = true) (A : Option Addr) (c nb : Nat) (b : List UInt8) (hnb : nb = b.length) (hy : Bytes w X.base A b) (hm : nb ≤ 200) (hk : k = 1) :
    Calls Try.prog 21 #[.pointer (some ⟨X.qn, 0, none⟩), .pointer (some ⟨X.qr, 0, none⟩), .agg #[.int .i64 k, .int .i64 f, .int .i64 t, .slice A nb c]] w fun e w' => e = .returned (.bool true) ∧ Both X w' ∧ Below X.base w w' ∧ Stays X w w' := by
  have h0 : Both X (w.alloc (.cells #[.int .i64 k, .int .i64 f, .int .i64 t, .slice A nb c] 46)) := h.below ((Below.refl _ _).alloc (Nat.le_refl _) _)
  have hb0 : Below X.base w (w.alloc (.cells #[.int .i64 k, .int .i64 f, .int .i64 t, .slice A nb c] 46)) := (Below.refl _ _).alloc h.le _
  have hC0 : Blk (w.alloc (.cells #[.int .i64 k, .int .i64 f, .int .i64 t, .slice A nb c] 46)) w.heap.size 46 #[.int .i64 k, .int .i64 f, .int .i64 t, .slice A nb c] := Blk.made _ _ _
  have hcq : w.heap.size ≠ X.qr := by have := h.qlt; omega
  obtain ⟨cb, hcb⟩ : ∃ cb, cb = w.heap.size := ⟨_, rfl⟩
  rw [← hcb] at hC0 hcq
  obtain ⟨w0, hw0⟩ : ∃ w0, w0 = w.alloc (.cells #[.int .i64 k, .int .i64 f, .int .i64 t, .slice A nb c] 46) := ⟨_, rfl⟩
  rw [← hw0] at h0 hb0 hC0
  have hst : ∀ k t cs, Blk w k t cs → Blk w0 k t cs := fun k t cs hk => by rw [hw0]; exact hk.alloc _
  obtain ⟨r, hp⟩ := pair_send (h0.draws 1) f t wf wt A c nb b hnb (hy.below (below_draws (n := 1) hb0)) hm
  have HP := Lib.hid hp
  clear hp
  subst hk
  clear hnb
  go_enter Try.func21, Try.ntmps21
  go_wp2_with fail
  rw [← hw0, ← hcb]
  clear hw0 hcb
  refine wp_region_held_drew (S := (fun w' => w'.cell? ⟨cb, 1, none⟩ = some (.int .i64 f) ∧ w'.cell? ⟨cb, 2, none⟩ = some (.int .i64 t) ∧ w'.cell? ⟨cb, 3, none⟩ = some (.slice A nb c))) (by kernel_rfl) (three hC0) (fun hHeld => ?_)
  refine wpAnyH_take (i := 0) (v := ?_) (by simp only [List.getElem?_toArray, List.getElem?_cons_zero]; rfl) (by kernel_rfl) (by kernel_rfl) (by kernel_rfl) (by intros; assumption) (Or.inl ⟨by rfl, ?_⟩) hHeld ?_; rotate_left; (intro w hSw; (try dsimp only at hSw); go_simp; try with_reducible rfl)
  try simp only [Act.put, List.setIfInBounds_toArray, List.set_cons_zero, List.set_cons_succ]
  refine wpAnyH_take (i := 1) (v := ?_) (by simp only [List.getElem?_toArray, List.getElem?_cons_succ, List.getElem?_cons_zero]; rfl) (by kernel_rfl) (by kernel_rfl) (by kernel_rfl) (by intros; assumption) (Or.inl ⟨by rfl, ?_⟩) hHeld ?_; rotate_left; (intro w hSw; (try dsimp only at hSw); go_simp; try with_reducible rfl)
  try simp only [Act.put, List.setIfInBounds_toArray, List.set_cons_zero, List.set_cons_succ]
  refine wpAnyH_take (i := 2) (v := ?_) (by simp only [List.getElem?_toArray, List.getElem?_cons_succ, List.getElem?_cons_zero]; rfl) (by kernel_rfl) (by kernel_rfl) (by kernel_rfl) (by intros; assumption) (Or.inl ⟨by rfl, ?_⟩) hHeld ?_; rotate_left; (intro w hSw; (try dsimp only at hSw); go_simp; try with_reducible rfl)
  try simp only [Act.put, List.setIfInBounds_toArray, List.set_cons_zero, List.set_cons_succ]
  refine wpAnyH_take (i := 3) (v := ?_) (by simp only [List.getElem?_toArray, List.getElem?_cons_succ, List.getElem?_cons_zero]; rfl) (by kernel_rfl) (by kernel_rfl) (by kernel_rfl) (by intros; assumption) (Or.inl ⟨by rfl, ?_⟩) hHeld ?_; rotate_left; (intro w hSw; (try dsimp only at hSw); go_simp; try with_reducible rfl)
  try simp only [Act.put, List.setIfInBounds_toArray, List.set_cons_zero, List.set_cons_succ]
  refine wpAnyH_take (i := 4) (v := ?_) (by simp only [List.getElem?_toArray, List.getElem?_cons_succ, List.getElem?_cons_zero]; rfl) (by kernel_rfl) (by kernel_rfl) (by kernel_rfl) (by intros; assumption) (Or.inl ⟨by rfl, ?_⟩) hHeld ?_; rotate_left; (intro w hSw; (try dsimp only at hSw); go_simp; try with_reducible rfl)
  try simp only [Act.put, List.setIfInBounds_toArray, List.set_cons_zero, List.set_cons_succ]
  refine wpAnyH_take (i := 5) (v := ?_) (by simp only [List.getElem?_toArray, List.getElem?_cons_succ, List.getElem?_cons_zero]; rfl) (by kernel_rfl) (by kernel_rfl) (by kernel_rfl) (by intros; assumption) (Or.inl ⟨by rfl, ?_⟩) hHeld ?_; rotate_left; (intro w hSw; (try dsimp only at hSw); go_simp; try with_reducible rfl)
  try simp only [Act.put, List.setIfInBounds_toArray, List.set_cons_zero, List.set_cons_succ]
  refine wpAnyH_take (i := 6) (v := ?_) (by simp only [List.getElem?_toArray, List.getElem?_cons_succ, List.getElem?_cons_zero]; rfl) (by kernel_rfl) (by kernel_rfl) (by kernel_rfl) (by intros; assumption) (Or.inl ⟨by rfl, ?_⟩) hHeld ?_; rotate_left; (intro w hSw; (try dsimp only at hSw); go_simp; try with_reducible rfl)
  try simp only [Act.put, List.setIfInBounds_toArray, List.set_cons_zero, List.set_cons_succ]
  refine wpAnyH_take (i := 8) (v := ?_) (by simp only [List.getElem?_toArray, List.getElem?_cons_succ, List.getElem?_cons_zero]; rfl) (by kernel_rfl) (by kernel_rfl) (by kernel_rfl) (by intros; assumption) (Or.inl ⟨by rfl, ?_⟩) hHeld ?_; rotate_left; (intro w hSw; (try dsimp only at hSw); go_simp; try with_reducible rfl)
  try simp only [Act.put, List.setIfInBounds_toArray, List.set_cons_zero, List.set_cons_succ]
  refine wpAnyH_take (i := 9) (v := ?_) (by simp only [List.getElem?_toArray, List.getElem?_cons_succ, List.getElem?_cons_zero]; rfl) (by kernel_rfl) (by kernel_rfl) (by kernel_rfl) (by intros; assumption) (Or.inl ⟨by rfl, ?_⟩) hHeld ?_; rotate_left; (intro w hSw; (try dsimp only at hSw); go_simp; try with_reducible rfl)
  try simp only [Act.put, List.setIfInBounds_toArray, List.set_cons_zero, List.set_cons_succ]
  refine wpAnyH_take (i := 10) (v := ?_) (by simp only [List.getElem?_toArray, List.getElem?_cons_succ, List.getElem?_cons_zero]; rfl) (by kernel_rfl) (by kernel_rfl) (by kernel_rfl) (by intros; assumption) (Or.inl ⟨by rfl, ?_⟩) hHeld ?_; rotate_left; (intro w hSw; (try dsimp only at hSw); go_simp; try with_reducible rfl)
  try simp only [Act.put, List.setIfInBounds_toArray, List.set_cons_zero, List.set_cons_succ]
  refine wpAnyH_take (i := 11) (v := ?_) (by simp only [List.getElem?_toArray, List.getElem?_cons_succ, List.getElem?_cons_zero]; rfl) (by kernel_rfl) (by kernel_rfl) (by kernel_rfl) (by intros; assumption) (Or.inl ⟨by rfl, ?_⟩) hHeld ?_; rotate_left; (intro w hSw; (try dsimp only at hSw); go_simp; try with_reducible rfl)
  try simp only [Act.put, List.setIfInBounds_toArray, List.set_cons_zero, List.set_cons_succ]
  refine wpAnyH_take (i := 12) (v := ?_) (by simp only [List.getElem?_toArray, List.getElem?_cons_succ, List.getElem?_cons_zero]; rfl) (by kernel_rfl) (by kernel_rfl) (by kernel_rfl) (by intros; assumption) (Or.inl ⟨by rfl, ?_⟩) hHeld ?_; rotate_left; (intro w hSw; (try dsimp only at hSw); go_simp; try with_reducible rfl)
  try simp only [Act.put, List.setIfInBounds_toArray, List.set_cons_zero, List.set_cons_succ]
  refine wpAnyH_take (i := 13) (v := ?_) (by simp only [List.getElem?_toArray, List.getElem?_cons_succ, List.getElem?_cons_zero]; rfl) (by kernel_rfl) (by kernel_rfl) (by kernel_rfl) (by intros; assumption) (Or.inl ⟨by rfl, ?_⟩) hHeld ?_; rotate_left; (intro w hSw; (try dsimp only at hSw); go_simp; try with_reducible rfl)
  try simp only [Act.put, List.setIfInBounds_toArray, List.set_cons_zero, List.set_cons_succ]
  refine wpAnyH_take (i := 14) (v := ?_) (by simp only [List.getElem?_toArray, List.getElem?_cons_succ, List.getElem?_cons_zero]; rfl) (by kernel_rfl) (by kernel_rfl) (by kernel_rfl) (by intros; assumption) (Or.inl ⟨by rfl, ?_⟩) hHeld ?_; rotate_left; (intro w hSw; (try dsimp only at hSw); go_simp; try with_reducible rfl)
  try simp only [Act.put, List.setIfInBounds_toArray, List.set_cons_zero, List.set_cons_succ]
  refine wpAnyH_ready (rs := [7]) (by kernel_rfl) (by simp) (AllReadyH.cons (by simp only [List.getElem?_toArray, List.getElem?_cons_succ, List.getElem?_cons_zero]; rfl) (fun K hK => ?_) AllReadyH.nil)
  clear hHeld
  go_simp
  refine HP.out.mono ?_
  rintro e w1 ⟨rfl, T1, B1, C2⟩
  have hC1 : Blk w1 cb 46 _ := T1.block _ _ hC0 rfl
  try dsimp only
  refine hK.out _ _ (three hC1) (fun hHeld => ?_)
  clear hK K
  try simp only [Act.put, List.setIfInBounds_toArray, List.set_cons_zero, List.set_cons_succ]
  refine wpAnyH_ready (rs := [15]) (by kernel_rfl) (by simp) (AllReadyH.cons (by simp only [List.getElem?_toArray, List.getElem?_cons_succ, List.getElem?_cons_zero]; rfl) (fun K hK => ?_) AllReadyH.nil)
  clear hHeld
  go_simp
  refine C2.mono ?_
  rintro e w2 ⟨rfl, g2, h2⟩
  have hC2 := both_grown hC1 g2 hcq
  try dsimp only
  refine hK.out _ _ (three hC2) (fun hHeld => ?_)
  clear hK K
  try simp only [Act.put, List.setIfInBounds_toArray, List.set_cons_zero, List.set_cons_succ]
  refine wpAnyH_ready (rs := [16]) (by kernel_rfl) (by simp) (AllReadyH.cons (by simp only [List.getElem?_toArray, List.getElem?_cons_succ, List.getElem?_cons_zero]; rfl) (fun K hK => ?_) AllReadyH.nil)
  clear hHeld
  go_simp
  refine hK.out _ _ (three hC2) (fun hHeld => ?_)
  clear hK K
  try simp only [Act.put, List.setIfInBounds_toArray, List.set_cons_zero, List.set_cons_succ]
  refine wpAnyH_ready (rs := [17]) (by kernel_rfl) (by simp) (AllReadyH.cons (by simp only [List.getElem?_toArray, List.getElem?_cons_succ, List.getElem?_cons_zero]; rfl) (fun K hK => ?_) AllReadyH.nil)
  clear hHeld
  go_simp
  refine hK.out _ _ (three hC2) (fun hHeld => ?_)
  clear hK K
  try simp only [Act.put, List.setIfInBounds_toArray, List.set_cons_zero, List.set_cons_succ]
  refine wpAnyH_done (by kernel_rfl) ?_ _
  go_wp2_with fail
  go_ret
  exact ⟨rfl, h2, (hb0.trans (below_undrew B1)).grown g2 (by have hz : w0.heap.size ≤ w1.heap.size := T1.size; have := h0.le; omega) (fun k e => by injection e with e; rw [← e]; exact h0.lo), fun k t cs hk hne => both_grown (T1.block _ _ (hst k t cs hk) rfl) g2 hne⟩
set_option maxRecDepth 100000 in
set_option maxHeartbeats 2000000 in
theorem did_drop (X : Fix) (w : World) (h : Both X w) (k f t : Int) (wf : (Lit.int .i64 f).wf = true) (wt : (Lit.int .i64 t).wf = true) (A : Option Addr) (c nb : Nat) (hk : k = 3) :
    Calls Try.prog 21 #[.pointer (some ⟨X.qn, 0, none⟩), .pointer (some ⟨X.qr, 0, none⟩), .agg #[.int .i64 k, .int .i64 f, .int .i64 t, .slice A nb c]] w fun e w' => e = .returned (.bool true) ∧ Both X w' ∧ Below X.base w w' ∧ Stays X w w' := by
  have h0 : Both X (w.alloc (.cells #[.int .i64 k, .int .i64 f, .int .i64 t, .slice A nb c] 46)) := h.below ((Below.refl _ _).alloc (Nat.le_refl _) _)
  have hb0 : Below X.base w (w.alloc (.cells #[.int .i64 k, .int .i64 f, .int .i64 t, .slice A nb c] 46)) := (Below.refl _ _).alloc h.le _
  have hC0 : Blk (w.alloc (.cells #[.int .i64 k, .int .i64 f, .int .i64 t, .slice A nb c] 46)) w.heap.size 46 #[.int .i64 k, .int .i64 f, .int .i64 t, .slice A nb c] := Blk.made _ _ _
  have hcq : w.heap.size ≠ X.qr := by have := h.qlt; omega
  obtain ⟨cb, hcb⟩ : ∃ cb, cb = w.heap.size := ⟨_, rfl⟩
  rw [← hcb] at hC0 hcq
  obtain ⟨w0, hw0⟩ : ∃ w0, w0 = w.alloc (.cells #[.int .i64 k, .int .i64 f, .int .i64 t, .slice A nb c] 46) := ⟨_, rfl⟩
  rw [← hw0] at h0 hb0 hC0
  have hst : ∀ k t cs, Blk w k t cs → Blk w0 k t cs := fun k t cs hk => by rw [hw0]; exact hk.alloc _
  obtain ⟨r, hp⟩ := pair_drop (h0.draws 1) f t wf wt
  have HP := Lib.hid hp
  clear hp
  subst hk
  go_enter Try.func21, Try.ntmps21
  go_wp2_with fail
  rw [← hw0, ← hcb]
  clear hw0 hcb
  refine wp_region_held_drew (S := (fun w' => w'.cell? ⟨cb, 1, none⟩ = some (.int .i64 f) ∧ w'.cell? ⟨cb, 2, none⟩ = some (.int .i64 t) ∧ w'.cell? ⟨cb, 3, none⟩ = some (.slice A nb c))) (by kernel_rfl) (three hC0) (fun hHeld => ?_)
  refine wpAnyH_take (i := 0) (v := ?_) (by simp only [List.getElem?_toArray, List.getElem?_cons_zero]; rfl) (by kernel_rfl) (by kernel_rfl) (by kernel_rfl) (by intros; assumption) (Or.inl ⟨by rfl, ?_⟩) hHeld ?_; rotate_left; (intro w hSw; (try dsimp only at hSw); go_simp; try with_reducible rfl)
  try simp only [Act.put, List.setIfInBounds_toArray, List.set_cons_zero, List.set_cons_succ]
  refine wpAnyH_take (i := 1) (v := ?_) (by simp only [List.getElem?_toArray, List.getElem?_cons_succ, List.getElem?_cons_zero]; rfl) (by kernel_rfl) (by kernel_rfl) (by kernel_rfl) (by intros; assumption) (Or.inl ⟨by rfl, ?_⟩) hHeld ?_; rotate_left; (intro w hSw; (try dsimp only at hSw); go_simp; try with_reducible rfl)
  try simp only [Act.put, List.setIfInBounds_toArray, List.set_cons_zero, List.set_cons_succ]
  refine wpAnyH_take (i := 2) (v := ?_) (by simp only [List.getElem?_toArray, List.getElem?_cons_succ, List.getElem?_cons_zero]; rfl) (by kernel_rfl) (by kernel_rfl) (by kernel_rfl) (by intros; assumption) (Or.inl ⟨by rfl, ?_⟩) hHeld ?_; rotate_left; (intro w hSw; (try dsimp only at hSw); go_simp; try with_reducible rfl)
  try simp only [Act.put, List.setIfInBounds_toArray, List.set_cons_zero, List.set_cons_succ]
  refine wpAnyH_take (i := 3) (v := ?_) (by simp only [List.getElem?_toArray, List.getElem?_cons_succ, List.getElem?_cons_zero]; rfl) (by kernel_rfl) (by kernel_rfl) (by kernel_rfl) (by intros; assumption) (Or.inl ⟨by rfl, ?_⟩) hHeld ?_; rotate_left; (intro w hSw; (try dsimp only at hSw); go_simp; try with_reducible rfl)
  try simp only [Act.put, List.setIfInBounds_toArray, List.set_cons_zero, List.set_cons_succ]
  refine wpAnyH_take (i := 4) (v := ?_) (by simp only [List.getElem?_toArray, List.getElem?_cons_succ, List.getElem?_cons_zero]; rfl) (by kernel_rfl) (by kernel_rfl) (by kernel_rfl) (by intros; assumption) (Or.inl ⟨by rfl, ?_⟩) hHeld ?_; rotate_left; (intro w hSw; (try dsimp only at hSw); go_simp; try with_reducible rfl)
  try simp only [Act.put, List.setIfInBounds_toArray, List.set_cons_zero, List.set_cons_succ]
  refine wpAnyH_take (i := 6) (v := ?_) (by simp only [List.getElem?_toArray, List.getElem?_cons_succ, List.getElem?_cons_zero]; rfl) (by kernel_rfl) (by kernel_rfl) (by kernel_rfl) (by intros; assumption) (Or.inl ⟨by rfl, ?_⟩) hHeld ?_; rotate_left; (intro w hSw; (try dsimp only at hSw); go_simp; try with_reducible rfl)
  try simp only [Act.put, List.setIfInBounds_toArray, List.set_cons_zero, List.set_cons_succ]
  refine wpAnyH_take (i := 7) (v := ?_) (by simp only [List.getElem?_toArray, List.getElem?_cons_succ, List.getElem?_cons_zero]; rfl) (by kernel_rfl) (by kernel_rfl) (by kernel_rfl) (by intros; assumption) (Or.inl ⟨by rfl, ?_⟩) hHeld ?_; rotate_left; (intro w hSw; (try dsimp only at hSw); go_simp; try with_reducible rfl)
  try simp only [Act.put, List.setIfInBounds_toArray, List.set_cons_zero, List.set_cons_succ]
  refine wpAnyH_take (i := 8) (v := ?_) (by simp only [List.getElem?_toArray, List.getElem?_cons_succ, List.getElem?_cons_zero]; rfl) (by kernel_rfl) (by kernel_rfl) (by kernel_rfl) (by intros; assumption) (Or.inl ⟨by rfl, ?_⟩) hHeld ?_; rotate_left; (intro w hSw; (try dsimp only at hSw); go_simp; try with_reducible rfl)
  try simp only [Act.put, List.setIfInBounds_toArray, List.set_cons_zero, List.set_cons_succ]
  refine wpAnyH_take (i := 9) (v := ?_) (by simp only [List.getElem?_toArray, List.getElem?_cons_succ, List.getElem?_cons_zero]; rfl) (by kernel_rfl) (by kernel_rfl) (by kernel_rfl) (by intros; assumption) (Or.inl ⟨by rfl, ?_⟩) hHeld ?_; rotate_left; (intro w hSw; (try dsimp only at hSw); go_simp; try with_reducible rfl)
  try simp only [Act.put, List.setIfInBounds_toArray, List.set_cons_zero, List.set_cons_succ]
  refine wpAnyH_take (i := 10) (v := ?_) (by simp only [List.getElem?_toArray, List.getElem?_cons_succ, List.getElem?_cons_zero]; rfl) (by kernel_rfl) (by kernel_rfl) (by kernel_rfl) (by intros; assumption) (Or.inl ⟨by rfl, ?_⟩) hHeld ?_; rotate_left; (intro w hSw; (try dsimp only at hSw); go_simp; try with_reducible rfl)
  try simp only [Act.put, List.setIfInBounds_toArray, List.set_cons_zero, List.set_cons_succ]
  refine wpAnyH_ready (rs := [5]) (by kernel_rfl) (by simp) (AllReadyH.cons (by simp only [List.getElem?_toArray, List.getElem?_cons_succ, List.getElem?_cons_zero]; rfl) (fun K hK => ?_) AllReadyH.nil)
  clear hHeld
  go_simp
  refine HP.out.mono ?_
  rintro e w1 ⟨rfl, T1, B1, C2⟩
  have hC1 : Blk w1 cb 46 _ := T1.block _ _ hC0 rfl
  try dsimp only
  refine hK.out _ _ (three hC1) (fun hHeld => ?_)
  clear hK K
  try simp only [Act.put, List.setIfInBounds_toArray, List.set_cons_zero, List.set_cons_succ]
  refine wpAnyH_ready (rs := [11]) (by kernel_rfl) (by simp) (AllReadyH.cons (by simp only [List.getElem?_toArray, List.getElem?_cons_succ, List.getElem?_cons_zero]; rfl) (fun K hK => ?_) AllReadyH.nil)
  clear hHeld
  go_simp
  refine C2.mono ?_
  rintro e w2 ⟨rfl, g2, h2⟩
  have hC2 := both_grown hC1 g2 hcq
  try dsimp only
  refine hK.out _ _ (three hC2) (fun hHeld => ?_)
  clear hK K
  try simp only [Act.put, List.setIfInBounds_toArray, List.set_cons_zero, List.set_cons_succ]
  refine wpAnyH_ready (rs := [12]) (by kernel_rfl) (by simp) (AllReadyH.cons (by simp only [List.getElem?_toArray, List.getElem?_cons_succ, List.getElem?_cons_zero]; rfl) (fun K hK => ?_) AllReadyH.nil)
  clear hHeld
  go_simp
  refine hK.out _ _ (three hC2) (fun hHeld => ?_)
  clear hK K
  try simp only [Act.put, List.setIfInBounds_toArray, List.set_cons_zero, List.set_cons_succ]
  refine wpAnyH_ready (rs := [13]) (by kernel_rfl) (by simp) (AllReadyH.cons (by simp only [List.getElem?_toArray, List.getElem?_cons_succ, List.getElem?_cons_zero]; rfl) (fun K hK => ?_) AllReadyH.nil)
  clear hHeld
  go_simp
  refine hK.out _ _ (three hC2) (fun hHeld => ?_)
  clear hK K
  try simp only [Act.put, List.setIfInBounds_toArray, List.set_cons_zero, List.set_cons_succ]
  refine wpAnyH_done (by kernel_rfl) ?_ _
  go_wp2_with fail
  go_ret
  exact ⟨rfl, h2, (hb0.trans (below_undrew B1)).grown g2 (by have hz : w0.heap.size ≤ w1.heap.size := T1.size; have := h0.le; omega) (fun k e => by injection e with e; rw [← e]; exact h0.lo), fun k t cs hk hne => both_grown (T1.block _ _ (hst k t cs hk) rfl) g2 hne⟩
set_option maxRecDepth 100000 in
set_option maxHeartbeats 2000000 in
theorem did_twice (X : Fix) (w : World) (h : Both X w) (k f t : Int) (wf : (Lit.int .i64 f).wf = true) (wt : (Lit.int .i64 t).wf = true) (A : Option Addr) (c nb : Nat) (hk : k = 4) :
    Calls Try.prog 21 #[.pointer (some ⟨X.qn, 0, none⟩), .pointer (some ⟨X.qr, 0, none⟩), .agg #[.int .i64 k, .int .i64 f, .int .i64 t, .slice A nb c]] w fun e w' => e = .returned (.bool true) ∧ Both X w' ∧ Below X.base w w' ∧ Stays X w w' := by
  have h0 : Both X (w.alloc (.cells #[.int .i64 k, .int .i64 f, .int .i64 t, .slice A nb c] 46)) := h.below ((Below.refl _ _).alloc (Nat.le_refl _) _)
  have hb0 : Below X.base w (w.alloc (.cells #[.int .i64 k, .int .i64 f, .int .i64 t, .slice A nb c] 46)) := (Below.refl _ _).alloc h.le _
  have hC0 : Blk (w.alloc (.cells #[.int .i64 k, .int .i64 f, .int .i64 t, .slice A nb c] 46)) w.heap.size 46 #[.int .i64 k, .int .i64 f, .int .i64 t, .slice A nb c] := Blk.made _ _ _
  have hcq : w.heap.size ≠ X.qr := by have := h.qlt; omega
  obtain ⟨cb, hcb⟩ : ∃ cb, cb = w.heap.size := ⟨_, rfl⟩
  rw [← hcb] at hC0 hcq
  obtain ⟨w0, hw0⟩ : ∃ w0, w0 = w.alloc (.cells #[.int .i64 k, .int .i64 f, .int .i64 t, .slice A nb c] 46) := ⟨_, rfl⟩
  rw [← hw0] at h0 hb0 hC0
  have hst : ∀ k t cs, Blk w k t cs → Blk w0 k t cs := fun k t cs hk => by rw [hw0]; exact hk.alloc _
  obtain ⟨r, hp⟩ := pair_twice (h0.draws 1) f t wf wt
  have HP := Lib.hid hp
  clear hp
  subst hk
  go_enter Try.func21, Try.ntmps21
  go_wp2_with fail
  rw [← hw0, ← hcb]
  clear hw0 hcb
  refine wp_region_held_drew (S := (fun w' => w'.cell? ⟨cb, 1, none⟩ = some (.int .i64 f) ∧ w'.cell? ⟨cb, 2, none⟩ = some (.int .i64 t) ∧ w'.cell? ⟨cb, 3, none⟩ = some (.slice A nb c))) (by kernel_rfl) (three hC0) (fun hHeld => ?_)
  refine wpAnyH_take (i := 0) (v := ?_) (by simp only [List.getElem?_toArray, List.getElem?_cons_zero]; rfl) (by kernel_rfl) (by kernel_rfl) (by kernel_rfl) (by intros; assumption) (Or.inl ⟨by rfl, ?_⟩) hHeld ?_; rotate_left; (intro w hSw; (try dsimp only at hSw); go_simp; try with_reducible rfl)
  try simp only [Act.put, List.setIfInBounds_toArray, List.set_cons_zero, List.set_cons_succ]
  refine wpAnyH_take (i := 1) (v := ?_) (by simp only [List.getElem?_toArray, List.getElem?_cons_succ, List.getElem?_cons_zero]; rfl) (by kernel_rfl) (by kernel_rfl) (by kernel_rfl) (by intros; assumption) (Or.inl ⟨by rfl, ?_⟩) hHeld ?_; rotate_left; (intro w hSw; (try dsimp only at hSw); go_simp; try with_reducible rfl)
  try simp only [Act.put, List.setIfInBounds_toArray, List.set_cons_zero, List.set_cons_succ]
  refine wpAnyH_take (i := 2) (v := ?_) (by simp only [List.getElem?_toArray, List.getElem?_cons_succ, List.getElem?_cons_zero]; rfl) (by kernel_rfl) (by kernel_rfl) (by kernel_rfl) (by intros; assumption) (Or.inl ⟨by rfl, ?_⟩) hHeld ?_; rotate_left; (intro w hSw; (try dsimp only at hSw); go_simp; try with_reducible rfl)
  try simp only [Act.put, List.setIfInBounds_toArray, List.set_cons_zero, List.set_cons_succ]
  refine wpAnyH_take (i := 3) (v := ?_) (by simp only [List.getElem?_toArray, List.getElem?_cons_succ, List.getElem?_cons_zero]; rfl) (by kernel_rfl) (by kernel_rfl) (by kernel_rfl) (by intros; assumption) (Or.inl ⟨by rfl, ?_⟩) hHeld ?_; rotate_left; (intro w hSw; (try dsimp only at hSw); go_simp; try with_reducible rfl)
  try simp only [Act.put, List.setIfInBounds_toArray, List.set_cons_zero, List.set_cons_succ]
  refine wpAnyH_take (i := 4) (v := ?_) (by simp only [List.getElem?_toArray, List.getElem?_cons_succ, List.getElem?_cons_zero]; rfl) (by kernel_rfl) (by kernel_rfl) (by kernel_rfl) (by intros; assumption) (Or.inl ⟨by rfl, ?_⟩) hHeld ?_; rotate_left; (intro w hSw; (try dsimp only at hSw); go_simp; try with_reducible rfl)
  try simp only [Act.put, List.setIfInBounds_toArray, List.set_cons_zero, List.set_cons_succ]
  refine wpAnyH_take (i := 6) (v := ?_) (by simp only [List.getElem?_toArray, List.getElem?_cons_succ, List.getElem?_cons_zero]; rfl) (by kernel_rfl) (by kernel_rfl) (by kernel_rfl) (by intros; assumption) (Or.inl ⟨by rfl, ?_⟩) hHeld ?_; rotate_left; (intro w hSw; (try dsimp only at hSw); go_simp; try with_reducible rfl)
  try simp only [Act.put, List.setIfInBounds_toArray, List.set_cons_zero, List.set_cons_succ]
  refine wpAnyH_take (i := 7) (v := ?_) (by simp only [List.getElem?_toArray, List.getElem?_cons_succ, List.getElem?_cons_zero]; rfl) (by kernel_rfl) (by kernel_rfl) (by kernel_rfl) (by intros; assumption) (Or.inl ⟨by rfl, ?_⟩) hHeld ?_; rotate_left; (intro w hSw; (try dsimp only at hSw); go_simp; try with_reducible rfl)
  try simp only [Act.put, List.setIfInBounds_toArray, List.set_cons_zero, List.set_cons_succ]
  refine wpAnyH_take (i := 8) (v := ?_) (by simp only [List.getElem?_toArray, List.getElem?_cons_succ, List.getElem?_cons_zero]; rfl) (by kernel_rfl) (by kernel_rfl) (by kernel_rfl) (by intros; assumption) (Or.inl ⟨by rfl, ?_⟩) hHeld ?_; rotate_left; (intro w hSw; (try dsimp only at hSw); go_simp; try with_reducible rfl)
  try simp only [Act.put, List.setIfInBounds_toArray, List.set_cons_zero, List.set_cons_succ]
  refine wpAnyH_take (i := 9) (v := ?_) (by simp only [List.getElem?_toArray, List.getElem?_cons_succ, List.getElem?_cons_zero]; rfl) (by kernel_rfl) (by kernel_rfl) (by kernel_rfl) (by intros; assumption) (Or.inl ⟨by rfl, ?_⟩) hHeld ?_; rotate_left; (intro w hSw; (try dsimp only at hSw); go_simp; try with_reducible rfl)
  try simp only [Act.put, List.setIfInBounds_toArray, List.set_cons_zero, List.set_cons_succ]
  refine wpAnyH_take (i := 10) (v := ?_) (by simp only [List.getElem?_toArray, List.getElem?_cons_succ, List.getElem?_cons_zero]; rfl) (by kernel_rfl) (by kernel_rfl) (by kernel_rfl) (by intros; assumption) (Or.inl ⟨by rfl, ?_⟩) hHeld ?_; rotate_left; (intro w hSw; (try dsimp only at hSw); go_simp; try with_reducible rfl)
  try simp only [Act.put, List.setIfInBounds_toArray, List.set_cons_zero, List.set_cons_succ]
  refine wpAnyH_ready (rs := [5]) (by kernel_rfl) (by simp) (AllReadyH.cons (by simp only [List.getElem?_toArray, List.getElem?_cons_succ, List.getElem?_cons_zero]; rfl) (fun K hK => ?_) AllReadyH.nil)
  clear hHeld
  go_simp
  refine HP.out.mono ?_
  rintro e w1 ⟨rfl, T1, B1, C2⟩
  have hC1 : Blk w1 cb 46 _ := T1.block _ _ hC0 rfl
  try dsimp only
  refine hK.out _ _ (three hC1) (fun hHeld => ?_)
  clear hK K
  try simp only [Act.put, List.setIfInBounds_toArray, List.set_cons_zero, List.set_cons_succ]
  refine wpAnyH_ready (rs := [11]) (by kernel_rfl) (by simp) (AllReadyH.cons (by simp only [List.getElem?_toArray, List.getElem?_cons_succ, List.getElem?_cons_zero]; rfl) (fun K hK => ?_) AllReadyH.nil)
  clear hHeld
  go_simp
  refine C2.mono ?_
  rintro e w2 ⟨rfl, g2, h2⟩
  have hC2 := both_grown hC1 g2 hcq
  try dsimp only
  refine hK.out _ _ (three hC2) (fun hHeld => ?_)
  clear hK K
  try simp only [Act.put, List.setIfInBounds_toArray, List.set_cons_zero, List.set_cons_succ]
  refine wpAnyH_ready (rs := [12]) (by kernel_rfl) (by simp) (AllReadyH.cons (by simp only [List.getElem?_toArray, List.getElem?_cons_succ, List.getElem?_cons_zero]; rfl) (fun K hK => ?_) AllReadyH.nil)
  clear hHeld
  go_simp
  refine hK.out _ _ (three hC2) (fun hHeld => ?_)
  clear hK K
  try simp only [Act.put, List.setIfInBounds_toArray, List.set_cons_zero, List.set_cons_succ]
  refine wpAnyH_ready (rs := [13]) (by kernel_rfl) (by simp) (AllReadyH.cons (by simp only [List.getElem?_toArray, List.getElem?_cons_succ, List.getElem?_cons_zero]; rfl) (fun K hK => ?_) AllReadyH.nil)
  clear hHeld
  go_simp
  refine hK.out _ _ (three hC2) (fun hHeld => ?_)
  clear hK K
  try simp only [Act.put, List.setIfInBounds_toArray, List.set_cons_zero, List.set_cons_succ]
  refine wpAnyH_done (by kernel_rfl) ?_ _
  go_wp2_with fail
  go_ret
  exact ⟨rfl, h2, (hb0.trans (below_undrew B1)).grown g2 (by have hz : w0.heap.size ≤ w1.heap.size := T1.size; have := h0.le; omega) (fun k e => by injection e with e; rw [← e]; exact h0.lo), fun k t cs hk hne => both_grown (T1.block _ _ (hst k t cs hk) rfl) g2 hne⟩
set_option maxRecDepth 100000 in
set_option maxHeartbeats 2000000 in
theorem did_turn (X : Fix) (w : World) (h : Both X w) (k f t : Int) (wf : (Lit.int .i64 f).wf = true) (wt : (Lit.int .i64 t).wf = true) (A : Option Addr) (c nb : Nat) (hk : k = 5) :
    Calls Try.prog 21 #[.pointer (some ⟨X.qn, 0, none⟩), .pointer (some ⟨X.qr, 0, none⟩), .agg #[.int .i64 k, .int .i64 f, .int .i64 t, .slice A nb c]] w fun e w' => e = .returned (.bool true) ∧ Both X w' ∧ Below X.base w w' ∧ Stays X w w' := by
  have h0 : Both X (w.alloc (.cells #[.int .i64 k, .int .i64 f, .int .i64 t, .slice A nb c] 46)) := h.below ((Below.refl _ _).alloc (Nat.le_refl _) _)
  have hb0 : Below X.base w (w.alloc (.cells #[.int .i64 k, .int .i64 f, .int .i64 t, .slice A nb c] 46)) := (Below.refl _ _).alloc h.le _
  have hC0 : Blk (w.alloc (.cells #[.int .i64 k, .int .i64 f, .int .i64 t, .slice A nb c] 46)) w.heap.size 46 #[.int .i64 k, .int .i64 f, .int .i64 t, .slice A nb c] := Blk.made _ _ _
  have hcq : w.heap.size ≠ X.qr := by have := h.qlt; omega
  obtain ⟨cb, hcb⟩ : ∃ cb, cb = w.heap.size := ⟨_, rfl⟩
  rw [← hcb] at hC0 hcq
  obtain ⟨w0, hw0⟩ : ∃ w0, w0 = w.alloc (.cells #[.int .i64 k, .int .i64 f, .int .i64 t, .slice A nb c] 46) := ⟨_, rfl⟩
  rw [← hw0] at h0 hb0 hC0
  have hst : ∀ k t cs, Blk w k t cs → Blk w0 k t cs := fun k t cs hk => by rw [hw0]; exact hk.alloc _
  obtain ⟨r, hp⟩ := pair_turn (h0.draws 1) f t wf wt
  have HP := Lib.hid hp
  clear hp
  subst hk
  go_enter Try.func21, Try.ntmps21
  go_wp2_with fail
  rw [← hw0, ← hcb]
  clear hw0 hcb
  refine wp_region_held_drew (S := (fun w' => w'.cell? ⟨cb, 1, none⟩ = some (.int .i64 f) ∧ w'.cell? ⟨cb, 2, none⟩ = some (.int .i64 t) ∧ w'.cell? ⟨cb, 3, none⟩ = some (.slice A nb c))) (by kernel_rfl) (three hC0) (fun hHeld => ?_)
  refine wpAnyH_take (i := 0) (v := ?_) (by simp only [List.getElem?_toArray, List.getElem?_cons_zero]; rfl) (by kernel_rfl) (by kernel_rfl) (by kernel_rfl) (by intros; assumption) (Or.inl ⟨by rfl, ?_⟩) hHeld ?_; rotate_left; (intro w hSw; (try dsimp only at hSw); go_simp; try with_reducible rfl)
  try simp only [Act.put, List.setIfInBounds_toArray, List.set_cons_zero, List.set_cons_succ]
  refine wpAnyH_take (i := 1) (v := ?_) (by simp only [List.getElem?_toArray, List.getElem?_cons_succ, List.getElem?_cons_zero]; rfl) (by kernel_rfl) (by kernel_rfl) (by kernel_rfl) (by intros; assumption) (Or.inl ⟨by rfl, ?_⟩) hHeld ?_; rotate_left; (intro w hSw; (try dsimp only at hSw); go_simp; try with_reducible rfl)
  try simp only [Act.put, List.setIfInBounds_toArray, List.set_cons_zero, List.set_cons_succ]
  refine wpAnyH_take (i := 2) (v := ?_) (by simp only [List.getElem?_toArray, List.getElem?_cons_succ, List.getElem?_cons_zero]; rfl) (by kernel_rfl) (by kernel_rfl) (by kernel_rfl) (by intros; assumption) (Or.inl ⟨by rfl, ?_⟩) hHeld ?_; rotate_left; (intro w hSw; (try dsimp only at hSw); go_simp; try with_reducible rfl)
  try simp only [Act.put, List.setIfInBounds_toArray, List.set_cons_zero, List.set_cons_succ]
  refine wpAnyH_take (i := 3) (v := ?_) (by simp only [List.getElem?_toArray, List.getElem?_cons_succ, List.getElem?_cons_zero]; rfl) (by kernel_rfl) (by kernel_rfl) (by kernel_rfl) (by intros; assumption) (Or.inl ⟨by rfl, ?_⟩) hHeld ?_; rotate_left; (intro w hSw; (try dsimp only at hSw); go_simp; try with_reducible rfl)
  try simp only [Act.put, List.setIfInBounds_toArray, List.set_cons_zero, List.set_cons_succ]
  refine wpAnyH_take (i := 4) (v := ?_) (by simp only [List.getElem?_toArray, List.getElem?_cons_succ, List.getElem?_cons_zero]; rfl) (by kernel_rfl) (by kernel_rfl) (by kernel_rfl) (by intros; assumption) (Or.inl ⟨by rfl, ?_⟩) hHeld ?_; rotate_left; (intro w hSw; (try dsimp only at hSw); go_simp; try with_reducible rfl)
  try simp only [Act.put, List.setIfInBounds_toArray, List.set_cons_zero, List.set_cons_succ]
  refine wpAnyH_take (i := 6) (v := ?_) (by simp only [List.getElem?_toArray, List.getElem?_cons_succ, List.getElem?_cons_zero]; rfl) (by kernel_rfl) (by kernel_rfl) (by kernel_rfl) (by intros; assumption) (Or.inl ⟨by rfl, ?_⟩) hHeld ?_; rotate_left; (intro w hSw; (try dsimp only at hSw); go_simp; try with_reducible rfl)
  try simp only [Act.put, List.setIfInBounds_toArray, List.set_cons_zero, List.set_cons_succ]
  refine wpAnyH_take (i := 7) (v := ?_) (by simp only [List.getElem?_toArray, List.getElem?_cons_succ, List.getElem?_cons_zero]; rfl) (by kernel_rfl) (by kernel_rfl) (by kernel_rfl) (by intros; assumption) (Or.inl ⟨by rfl, ?_⟩) hHeld ?_; rotate_left; (intro w hSw; (try dsimp only at hSw); go_simp; try with_reducible rfl)
  try simp only [Act.put, List.setIfInBounds_toArray, List.set_cons_zero, List.set_cons_succ]
  refine wpAnyH_take (i := 8) (v := ?_) (by simp only [List.getElem?_toArray, List.getElem?_cons_succ, List.getElem?_cons_zero]; rfl) (by kernel_rfl) (by kernel_rfl) (by kernel_rfl) (by intros; assumption) (Or.inl ⟨by rfl, ?_⟩) hHeld ?_; rotate_left; (intro w hSw; (try dsimp only at hSw); go_simp; try with_reducible rfl)
  try simp only [Act.put, List.setIfInBounds_toArray, List.set_cons_zero, List.set_cons_succ]
  refine wpAnyH_take (i := 9) (v := ?_) (by simp only [List.getElem?_toArray, List.getElem?_cons_succ, List.getElem?_cons_zero]; rfl) (by kernel_rfl) (by kernel_rfl) (by kernel_rfl) (by intros; assumption) (Or.inl ⟨by rfl, ?_⟩) hHeld ?_; rotate_left; (intro w hSw; (try dsimp only at hSw); go_simp; try with_reducible rfl)
  try simp only [Act.put, List.setIfInBounds_toArray, List.set_cons_zero, List.set_cons_succ]
  refine wpAnyH_take (i := 10) (v := ?_) (by simp only [List.getElem?_toArray, List.getElem?_cons_succ, List.getElem?_cons_zero]; rfl) (by kernel_rfl) (by kernel_rfl) (by kernel_rfl) (by intros; assumption) (Or.inl ⟨by rfl, ?_⟩) hHeld ?_; rotate_left; (intro w hSw; (try dsimp only at hSw); go_simp; try with_reducible rfl)
  try simp only [Act.put, List.setIfInBounds_toArray, List.set_cons_zero, List.set_cons_succ]
  refine wpAnyH_ready (rs := [5]) (by kernel_rfl) (by simp) (AllReadyH.cons (by simp only [List.getElem?_toArray, List.getElem?_cons_succ, List.getElem?_cons_zero]; rfl) (fun K hK => ?_) AllReadyH.nil)
  clear hHeld
  go_simp
  refine HP.out.mono ?_
  rintro e w1 ⟨rfl, T1, B1, C2⟩
  have hC1 : Blk w1 cb 46 _ := T1.block _ _ hC0 rfl
  try dsimp only
  refine hK.out _ _ (three hC1) (fun hHeld => ?_)
  clear hK K
  try simp only [Act.put, List.setIfInBounds_toArray, List.set_cons_zero, List.set_cons_succ]
  refine wpAnyH_ready (rs := [11]) (by kernel_rfl) (by simp) (AllReadyH.cons (by simp only [List.getElem?_toArray, List.getElem?_cons_succ, List.getElem?_cons_zero]; rfl) (fun K hK => ?_) AllReadyH.nil)
  clear hHeld
  go_simp
  refine C2.mono ?_
  rintro e w2 ⟨rfl, g2, h2⟩
  have hC2 := both_grown hC1 g2 hcq
  try dsimp only
  refine hK.out _ _ (three hC2) (fun hHeld => ?_)
  clear hK K
  try simp only [Act.put, List.setIfInBounds_toArray, List.set_cons_zero, List.set_cons_succ]
  refine wpAnyH_ready (rs := [12]) (by kernel_rfl) (by simp) (AllReadyH.cons (by simp only [List.getElem?_toArray, List.getElem?_cons_succ, List.getElem?_cons_zero]; rfl) (fun K hK => ?_) AllReadyH.nil)
  clear hHeld
  go_simp
  refine hK.out _ _ (three hC2) (fun hHeld => ?_)
  clear hK K
  try simp only [Act.put, List.setIfInBounds_toArray, List.set_cons_zero, List.set_cons_succ]
  refine wpAnyH_ready (rs := [13]) (by kernel_rfl) (by simp) (AllReadyH.cons (by simp only [List.getElem?_toArray, List.getElem?_cons_succ, List.getElem?_cons_zero]; rfl) (fun K hK => ?_) AllReadyH.nil)
  clear hHeld
  go_simp
  refine hK.out _ _ (three hC2) (fun hHeld => ?_)
  clear hK K
  try simp only [Act.put, List.setIfInBounds_toArray, List.set_cons_zero, List.set_cons_succ]
  refine wpAnyH_done (by kernel_rfl) ?_ _
  go_wp2_with fail
  go_ret
  exact ⟨rfl, h2, (hb0.trans (below_undrew B1)).grown g2 (by have hz : w0.heap.size ≤ w1.heap.size := T1.size; have := h0.le; omega) (fun k e => by injection e with e; rw [← e]; exact h0.lo), fun k t cs hk hne => both_grown (T1.block _ _ (hst k t cs hk) rfl) g2 hne⟩
set_option maxRecDepth 100000 in
set_option maxHeartbeats 2000000 in
theorem did_take (X : Fix) (w : World) (h : Both X w) (k f t : Int) (wf : (Lit.int .i64 f).wf = true) (wt : (Lit.int .i64 t).wf = true) (A : Option Addr) (c nb : Nat) (hk : k = 2) :
    Calls Try.prog 21 #[.pointer (some ⟨X.qn, 0, none⟩), .pointer (some ⟨X.qr, 0, none⟩), .agg #[.int .i64 k, .int .i64 f, .int .i64 t, .slice A nb c]] w fun e w' => e = .returned (.bool true) ∧ Both X w' ∧ Below X.base w w' ∧ Stays X w w' := by
  have h0 : Both X (w.alloc (.cells #[.int .i64 k, .int .i64 f, .int .i64 t, .slice A nb c] 46)) := h.below ((Below.refl _ _).alloc (Nat.le_refl _) _)
  have hb0 : Below X.base w (w.alloc (.cells #[.int .i64 k, .int .i64 f, .int .i64 t, .slice A nb c] 46)) := (Below.refl _ _).alloc h.le _
  have hC0 : Blk (w.alloc (.cells #[.int .i64 k, .int .i64 f, .int .i64 t, .slice A nb c] 46)) w.heap.size 46 #[.int .i64 k, .int .i64 f, .int .i64 t, .slice A nb c] := Blk.made _ _ _
  have hcq : w.heap.size ≠ X.qr := by have := h.qlt; omega
  obtain ⟨cb, hcb⟩ : ∃ cb, cb = w.heap.size := ⟨_, rfl⟩
  rw [← hcb] at hC0 hcq
  obtain ⟨w0, hw0⟩ : ∃ w0, w0 = w.alloc (.cells #[.int .i64 k, .int .i64 f, .int .i64 t, .slice A nb c] 46) := ⟨_, rfl⟩
  rw [← hw0] at h0 hb0 hC0
  have hst : ∀ k t cs, Blk w k t cs → Blk w0 k t cs := fun k t cs hk => by rw [hw0]; exact hk.alloc _
  obtain ⟨r, b, hp⟩ := pair_take h0 f t wf wt
  have HP := Lib.hid hp
  clear hp
  subst hk
  go_enter Try.func21, Try.ntmps21
  go_wp2_with fail
  rw [← hw0, ← hcb]
  clear hw0 hcb
  refine HP.out.mono ?_
  rintro e w1 ⟨A1, c1, rfl, T1, B1, C2⟩
  have hC1 : Blk w1 cb 46 _ := T1.block _ _ hC0 rfl
  have d1 := (three hC1).1
  have d2 := (three hC1).2.1
  have HC2 := Lib.hid C2
  clear C2 HP
  go_wp2_with fail
  refine HC2.out.mono ?_
  clear HC2
  rintro e w2 ⟨A2, c2, rfl, g2, h2, y1, y2⟩
  have t1 := run_text (P := Try.prog) w2 24 9 5 y1 Try.underlying24 Try.underlying5 Try.underlying9 b.length c1 rfl
  have t2 := run_text (P := Try.prog) w2 24 9 5 y2 Try.underlying24 Try.underlying5 Try.underlying9 b.length c2 rfl
  go_wp2_with fail
  go_ret
  exact ⟨rfl, h2, (hb0.trans B1).grown g2 (by have := T1.size; have := h0.le; omega) (fun k e => by injection e with e; rw [← e]; exact h0.lo), fun k t cs hk hne => both_grown (T1.block _ _ (hst k t cs hk) rfl) g2 hne⟩
set_option maxRecDepth 100000 in
set_option maxHeartbeats 2000000 in
theorem did_empty (X : Fix) (w : World) (h : Both X w) (k f t : Int) (_wf : (Lit.int .i64 f).wf = true) (_wt : (Lit.int .i64 t).wf = true) (A : Option Addr) (c nb : Nat) (hk : k = 6) :
    Calls Try.prog 21 #[.pointer (some ⟨X.qn, 0, none⟩), .pointer (some ⟨X.qr, 0, none⟩), .agg #[.int .i64 k, .int .i64 f, .int .i64 t, .slice A nb c]] w fun e w' => e = .returned (.bool true) ∧ Both X w' ∧ Below X.base w w' ∧ Stays X w w' := by
  have h0 : Both X (w.alloc (.cells #[.int .i64 k, .int .i64 f, .int .i64 t, .slice A nb c] 46)) := h.below ((Below.refl _ _).alloc (Nat.le_refl _) _)
  have hb0 : Below X.base w (w.alloc (.cells #[.int .i64 k, .int .i64 f, .int .i64 t, .slice A nb c] 46)) := (Below.refl _ _).alloc h.le _
  have hC0 : Blk (w.alloc (.cells #[.int .i64 k, .int .i64 f, .int .i64 t, .slice A nb c] 46)) w.heap.size 46 #[.int .i64 k, .int .i64 f, .int .i64 t, .slice A nb c] := Blk.made _ _ _
  have hcq : w.heap.size ≠ X.qr := by have := h.qlt; omega
  obtain ⟨cb, hcb⟩ : ∃ cb, cb = w.heap.size := ⟨_, rfl⟩
  rw [← hcb] at hC0 hcq
  obtain ⟨w0, hw0⟩ : ∃ w0, w0 = w.alloc (.cells #[.int .i64 k, .int .i64 f, .int .i64 t, .slice A nb c] 46) := ⟨_, rfl⟩
  rw [← hw0] at h0 hb0 hC0
  have hst : ∀ k t cs, Blk w k t cs → Blk w0 k t cs := fun k t cs hk => by rw [hw0]; exact hk.alloc _
  have hp := pair_empty h0 f
  have HP := Lib.hid hp
  clear hp
  subst hk
  go_enter Try.func21, Try.ntmps21
  go_wp2_with fail
  rw [← hw0, ← hcb]
  clear hw0 hcb
  refine HP.out.mono ?_
  rintro e w1 ⟨rfl, T1, B1, C2⟩
  have hC1 : Blk w1 cb 46 _ := T1.block _ _ hC0 rfl
  have d1 := (three hC1).1
  have HC2 := Lib.hid C2
  clear C2 HP
  go_wp2_with fail
  refine HC2.out.mono ?_
  clear HC2
  rintro e w2 ⟨rfl, g2, h2⟩
  go_wp2_with fail
  go_ret
  exact ⟨rfl, h2, (hb0.trans B1).grown g2 (by have := T1.size; have := h0.le; omega) (fun k e => by injection e with e; rw [← e]; exact h0.lo), fun k t cs hk hne => both_grown (T1.block _ _ (hst k t cs hk) rfl) g2 hne⟩
set_option maxRecDepth 100000 in
set_option maxHeartbeats 2000000 in
theorem did_none (X : Fix) (w : World) (h : Both X w) (k f t : Int) (_wf : (Lit.int .i64 f).wf = true) (_wt : (Lit.int .i64 t).wf = true) (A : Option Addr) (c nb : Nat) (hk : k < 1 ∨ 6 < k) :
    Calls Try.prog 21 #[.pointer (some ⟨X.qn, 0, none⟩), .pointer (some ⟨X.qr, 0, none⟩), .agg #[.int .i64 k, .int .i64 f, .int .i64 t, .slice A nb c]] w fun e w' => e = .returned (.bool true) ∧ Both X w' ∧ Below X.base w w' ∧ Stays X w w' := by
  have h0 : Both X (w.alloc (.cells #[.int .i64 k, .int .i64 f, .int .i64 t, .slice A nb c] 46)) := h.below ((Below.refl _ _).alloc (Nat.le_refl _) _)
  have hb0 : Below X.base w (w.alloc (.cells #[.int .i64 k, .int .i64 f, .int .i64 t, .slice A nb c] 46)) := (Below.refl _ _).alloc h.le _
  have hC0 : Blk (w.alloc (.cells #[.int .i64 k, .int .i64 f, .int .i64 t, .slice A nb c] 46)) w.heap.size 46 #[.int .i64 k, .int .i64 f, .int .i64 t, .slice A nb c] := Blk.made _ _ _
  have hcq : w.heap.size ≠ X.qr := by have := h.qlt; omega
  obtain ⟨cb, hcb⟩ : ∃ cb, cb = w.heap.size := ⟨_, rfl⟩
  rw [← hcb] at hC0 hcq
  obtain ⟨w0, hw0⟩ : ∃ w0, w0 = w.alloc (.cells #[.int .i64 k, .int .i64 f, .int .i64 t, .slice A nb c] 46) := ⟨_, rfl⟩
  rw [← hw0] at h0 hb0 hC0
  have hst : ∀ k t cs, Blk w k t cs → Blk w0 k t cs := fun k t cs hk => by rw [hw0]; exact hk.alloc _
  have k1 : (k == 1) = false := by rw [beq_eq_false_iff_ne]; omega
  have k2 : (k == 2) = false := by rw [beq_eq_false_iff_ne]; omega
  have k3 : (k == 3) = false := by rw [beq_eq_false_iff_ne]; omega
  have k4 : (k == 4) = false := by rw [beq_eq_false_iff_ne]; omega
  have k5 : (k == 5) = false := by rw [beq_eq_false_iff_ne]; omega
  have k6 : (k == 6) = false := by rw [beq_eq_false_iff_ne]; omega
  clear hk
  go_enter Try.func21, Try.ntmps21
  go_wp2_with fail
  rw [← hw0]
  go_ret
  exact ⟨rfl, h0, hb0, fun k t cs hk _ => hst k t cs hk⟩
theorem did_any (X : Fix) (w : World) (h : Both X w) (k f t : Int) (wf : (Lit.int .i64 f).wf = true) (wt : (Lit.int .i64 t).wf = true) (A : Option Addr) (c nb : Nat) (b : List UInt8) (hnb : nb = b.length) (hy : Bytes w X.base A b) (hm : nb ≤ 200) :
    Calls Try.prog 21 #[.pointer (some ⟨X.qn, 0, none⟩), .pointer (some ⟨X.qr, 0, none⟩), .agg #[.int .i64 k, .int .i64 f, .int .i64 t, .slice A nb c]] w fun e w' => e = .returned (.bool true) ∧ Both X w' ∧ Below X.base w w' ∧ Stays X w w' := by
  rcases (show k = 1 ∨ k = 2 ∨ k = 3 ∨ k = 4 ∨ k = 5 ∨ k = 6 ∨ (k < 1 ∨ 6 < k) by omega) with h1 | h1 | h1 | h1 | h1 | h1 | h1
  · exact did_send X w h k f t wf wt A c nb b hnb hy hm h1
  · exact did_take X w h k f t wf wt A c nb h1
  · exact did_drop X w h k f t wf wt A c nb h1
  · exact did_twice X w h k f t wf wt A c nb h1
  · exact did_turn X w h k f t wf wt A c nb h1
  · exact did_empty X w h k f t wf wt A c nb h1
  · exact did_none X w h k f t wf wt A c nb h1
end Go.Proofs.Ytbniaojldjhemaa
