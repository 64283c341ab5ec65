/- The calls at the head of all statements of layer 12. -/
import Derived.Test.YtofgclmibemniaaKids
namespace Go.Proofs.Ytofgclmibemniaa
open Go.RowKit

def pA (k : Nat) : Nat := if k = 3 then 1 else 0
theorem pA_good : Good pA 4 := fun k h1 h2 => by
  unfold pA
  split <;> omega
theorem anc1 : anc pA 1 = [1, 0] := by rw [anc_step pA (by omega) (by decide), show pA 1 = 0 by rfl, anc_zero]
theorem anc2 : anc pA 2 = [2, 0] := by rw [anc_step pA (by omega) (by decide), show pA 2 = 0 by rfl, anc_zero]
theorem anc3 : anc pA 3 = [3, 1, 0] := by rw [anc_step pA (by omega) (by decide), show pA 3 = 1 by rfl, anc1]
theorem wayA : way pA 3 2 = [3, 1, 0, 2] := by
  have ht : top pA 3 2 = 0 := top_unique pA (by rw [anc3]; decide) (by rw [anc2]; decide) (fun x h1 h2 => by
    rw [anc3] at h1
    rw [anc2] at h2
    simp at h1 h2
    omega)
  unfold way low
  rw [ht, anc3, anc2]
  rfl
theorem kidsA : kids pA 4 0 = [1, 2] := by decide
theorem up03 : upB pA 0 3 = true := by rw [upB_iff, anc3]; decide
theorem up23 : upB pA 2 3 = false := by rw [upB_not, anc3]; decide
theorem dep3 : dep pA 3 = 2 := by unfold dep; rw [anc3]; rfl

section
variable (w : World) (A : Option Addr) (ht : TreeAt w w.heap.size A 4 pA)
include ht
theorem aw_way : Calls Try.prog 11 #[.slice A 4 4, .int .i64 3, .int .i64 2] w fun e w' => ∃ A' c', e = .returned (.tuple #[.slice A' 4 c', .int .i64 0]) ∧ Arr w' w'.heap.size A' 4 (fun k => (([3, 1, 0, 2][k]?.getD 0 : Nat) : Int)) ∧ Below w.heap.size w w' := by
  have h := way_any A 4 4 pA w ht 3 2 (by omega) (by omega)
  rw [wayA] at h
  exact h.mono fun e w' ⟨A', c', he, ho, hb⟩ => ⟨A', c', he, Arr.of_lies (Lies.of_own ho), hb⟩
theorem aw_kids : Calls Try.prog 13 #[.slice A 4 4, .int .i64 0] w fun e w' => ∃ A' c', e = .returned (.slice A' 2 c') ∧ Arr w' w'.heap.size A' 2 (fun k => (([1, 2][k]?.getD 0 : Nat) : Int)) ∧ Below w.heap.size w w' := by
  have h := kids_any A 4 4 pA 0 w ht (by omega)
  rw [kidsA] at h
  exact h.mono fun e w' ⟨A', c', he, ho, hb⟩ => ⟨A', c', he, Arr.of_lies (Lies.of_own ho), hb⟩
theorem aw_step : Calls Try.prog 12 #[.slice A 4 4, .int .i64 3, .int .i64 2] w fun e w' => e = .returned (.tuple #[.int .i64 1, .int .i64 0]) ∧ Below w.heap.size w w' :=
  step_any A 4 4 pA w ht 3 2 (by omega) (by omega) (by omega) 1 [0, 2] wayA
theorem aw_same : Calls Try.prog 12 #[.slice A 4 4, .int .i64 3, .int .i64 3] w fun e w' => e = .returned (.tuple #[.int .i64 0, .int .i64 1]) ∧ Below w.heap.size w w' :=
  step_same A 4 4 pA w ht 3 (by omega)
theorem aw_up : Calls Try.prog 15 #[.slice A 4 4, .int .i64 0, .int .i64 3] w fun e w' => e = .returned (.bool true) ∧ w = w' := by
  have h := up_any A 4 4 _ pA w ht 0 3 (by omega) (by omega)
  rw [up03] at h
  exact h
theorem aw_up2 : Calls Try.prog 15 #[.slice A 4 4, .int .i64 2, .int .i64 3] w fun e w' => e = .returned (.bool false) ∧ w = w' := by
  have h := up_any A 4 4 _ pA w ht 2 3 (by omega) (by omega)
  rw [up23] at h
  exact h
theorem aw_depth : Calls Try.prog 14 #[.slice A 4 4, .int .i64 3] w fun e w' => e = .returned (.int .i64 2) ∧ w = w' := by
  have h := depth_any A 4 4 _ pA w ht 3 (by omega)
  rw [dep3] at h
  exact h
end
theorem aw_nil (w : World) : Calls Try.prog 10 #[.slice none 0 0] w fun e w' => e = .returned (.int .i64 120) ∧ w = w' :=
  check_bad none 0 0 0 (fun _ => 0) w (.inl rfl) (by omega) (fun h => by have := h.lo; omega)

/-- A constant's numbers in a new block. -/
theorem const_arr (w : World) (l : List Nat) (cs : Array Value) (h : cs.toList = natsV l) (m : Nat × Nat) : Arr (w.alloc (.cells cs 3 m)) (w.heap.size + 1) (some ⟨w.heap.size, 0, none⟩) l.length (fun k => ((l[k]?.getD 0 : Nat) : Int)) := by
  refine .inr ⟨_, _, rfl, by omega, fun k hk => ?_⟩
  rw [World.cell?_alloc_mark, Nat.zero_add, ← Array.getElem?_toList, h]
  exact natsV_get l hk
theorem const_tree (w : World) (m : Nat × Nat) : TreeAt (w.alloc (.cells #[.int .i64 (-1), .int .i64 0, .int .i64 0, .int .i64 1] 3 m)) (w.heap.size + 1) (some ⟨w.heap.size, 0, none⟩) 4 pA := by
  refine ⟨by omega, by omega, pA_good, _, _, rfl, by omega, ?_, fun k h1 h2 => ?_⟩
  · rw [World.cell?_alloc_mark]
    rfl
  · rw [World.cell?_alloc_mark]
    match k, h1, h2 with
    | 1, _, _ => rfl
    | 2, _, _ => rfl
    | 3, _, _ => rfl

set_option maxRecDepth 100000 in
set_option maxHeartbeats 2000000 in
theorem awake_any (w : World) : Calls Try.prog 9 #[] w fun e w' => e = .returned (.bool true) ∧ Below w.heap.size w w' := by
  have HT := const_tree w (0, 0)
  have hb0 : Below w.heap.size w (w.alloc (.cells #[.int .i64 (-1), .int .i64 0, .int .i64 0, .int .i64 1] 3)) := (Below.refl _ w).alloc (Nat.le_refl _) _
  go_enter Try.func9, Try.ntmps9
  go_wp2_with fail
  refine (aw_way _ _ (HT.more (by simp))).mono ?_
  rintro e w1 ⟨A1, c1, rfl, hw1, hb1⟩
  have hb1' : Below (w.heap.size + 1) (w.alloc (.cells #[.int .i64 (-1), .int .i64 0, .int .i64 0, .int .i64 1] 3)) w1 := hb1.mono (by simp)
  have hT1 := HT.below hb1'
  have hs1 := hb1'.size
  simp only [World.size_alloc] at hs1
  go_wp2_with fail
  refine (aw_step _ _ (hT1.more hs1)).mono ?_
  rintro e w2 ⟨rfl, hb2⟩
  have hT2 := hT1.below (hb2.mono hs1)
  have hs2 := hb2.size
  go_wp2_with fail
  refine (aw_same _ _ (hT2.more (by omega))).mono ?_
  rintro e w3 ⟨rfl, hb3⟩
  have hT3 := hT2.below (hb3.mono (by omega))
  have hs3 := hb3.size
  have hw3 := (hw1.below hb2).below (hb3.mono hs2)
  go_wp2_with fail
  have hq4 := const_arr w3 [3, 1, 0, 2] #[.int .i64 3, .int .i64 1, .int .i64 0, .int .i64 2] rfl (0, 0)
  refine (same_yes _ _ _ _ _ _ 4 _ _ (hw3.below ((Below.refl _ w3).alloc (by omega) _)) hq4 (by omega)).mono ?_
  rintro e w4 ⟨rfl, k4, rfl⟩
  have hb4 : Below w3.heap.size w3 ((w3.alloc (.cells #[.int .i64 3, .int .i64 1, .int .i64 0, .int .i64 2] 3)).drewN k4) := below_draws ((Below.refl _ w3).alloc (Nat.le_refl _) _)
  generalize (w3.alloc (.cells #[.int .i64 3, .int .i64 1, .int .i64 0, .int .i64 2] 3)).drewN k4 = w4 at *
  have hT4 := hT3.below (hb4.mono (by omega))
  have hs4 := hb4.size
  clear hq4 hw3 hw1
  go_wp2_with fail
  refine (aw_kids _ _ (hT4.more (by omega))).mono ?_
  rintro e w5 ⟨A5, c5, rfl, hw5, hb5⟩
  have hT5 := hT4.below (hb5.mono (by omega))
  have hs5 := hb5.size
  go_wp2_with fail
  have hq6 := const_arr w5 [1, 2] #[.int .i64 1, .int .i64 2] rfl (0, 0)
  refine (same_yes _ _ _ _ _ _ 2 _ _ (hw5.below ((Below.refl _ w5).alloc (by omega) _)) hq6 (by omega)).mono ?_
  rintro e w6 ⟨rfl, k6, rfl⟩
  have hb6 : Below w5.heap.size w5 ((w5.alloc (.cells #[.int .i64 1, .int .i64 2] 3)).drewN k6) := below_draws ((Below.refl _ w5).alloc (Nat.le_refl _) _)
  generalize (w5.alloc (.cells #[.int .i64 1, .int .i64 2] 3)).drewN k6 = w6 at *
  have hT6 := (hT5.below (hb6.mono (by omega))).more (show w.heap.size + 1 ≤ w6.heap.size by have := hb6.size; omega)
  have hfin : Below w.heap.size w w6 := hb0.trans ((hb1.mono (by simp)).trans ((hb2.mono (by omega)).trans ((hb3.mono (by omega)).trans ((hb4.mono (by omega)).trans ((hb5.mono (by omega)).trans (hb6.mono (by omega)))))))
  clear hq6 hw5 HT hT1 hT2 hT3 hT4 hT5 hb0 hb1 hb1' hb2 hb3 hb4 hb5 hb6
  go_wp2_with fail
  refine (aw_up _ _ hT6).mono ?_
  rintro e w7 ⟨rfl, rfl⟩
  go_wp2_with fail
  refine (aw_up2 _ _ hT6).mono ?_
  rintro e w7 ⟨rfl, rfl⟩
  go_wp2_with fail
  refine (aw_depth _ _ hT6).mono ?_
  rintro e w7 ⟨rfl, rfl⟩
  go_wp2_with fail
  refine (check_ok _ _ _ _ _ _ hT6).mono ?_
  rintro e w7 ⟨rfl, rfl⟩
  go_wp2_with fail
  refine (aw_nil _).mono ?_
  rintro e w7 ⟨rfl, rfl⟩
  go_wp2_with fail
  go_ret
  exact ⟨rfl, hfin⟩
end Go.Proofs.Ytofgclmibemniaa
