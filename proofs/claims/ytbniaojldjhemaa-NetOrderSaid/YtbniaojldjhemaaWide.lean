/- Clone and Send for texts of any length that the form's reach allows; the tree of three brokers. -/
import Derived.Test.YtbniaojldjhemaaTexts
namespace Go.Proofs.Ytbniaojldjhemaa
open Go.Conc Go.RowKit Go.Maps

theorem clone_wide (A : Option Addr) (c B : Nat) (l : List UInt8) (w : World) (h : Bytes w B A l) (hB : B ≤ w.heap.size) (hm : l.length ≤ 140737488355328) :
    Calls Try.prog 26 #[.slice A l.length c] w fun e w' => ∃ A' c', e = .returned (.slice A' l.length c') ∧ w'.ownsRow w.heap.size 5 1 (.slice A' l.length c') l.length (bytesV l) ∧ Below w.heap.size w w' := by
  obtain ⟨i0, hi0, hz0, hz1, hz2⟩ := info_parts Try.info5
  cases A with
  | none =>
    have hl : l = [] := by
      rcases h with h | ⟨b, off, hA, _⟩
      · cases l with
        | nil => rfl
        | cons x l => simp [bytesV] at h
      · cases hA
    subst hl
    have hn := Lib.run_eql_slice_nil (P := Try.prog) w 24 5 none 0 c 0 0 Try.underlying24
    go_enter Try.func26, Try.ntmps26
    go_wp2
    go_ret
    exact ⟨none, 0, rfl, World.ownsRow_nil _ _ _ _, Below.refl _ _⟩
  | some a =>
    have hn := Lib.run_eql_slice_nil (P := Try.prog) w 24 5 (some a) l.length c 0 0 Try.underlying24
    have hown := World.ownsRow_made (e := 5) (size := 1) w #[] 0 (Nat.le_refl _) (Nat.zero_le _) rfl
    go_enter Try.func26, Try.ntmps26
    go_wp2_with (at_builtin; refine wpList_append_from _ rfl (.tmp 5) (.tmp 6) 24 rfl w.heap.size 5 i0 _ 1 Try.underlying24 hi0 hz0 hz1 hz2 rfl _ 0 [] rfl hown B (some a) l.length c (bytesV l) rfl (bytesV_length l) (h.alloc hB _) (bytesV_one l) (by unfold maxLen; omega) (by omega) (by simp) ?_; intro A1 c1 w1 hown1 hgrow1 hat1)
    have hb1 := ((Below.refl w.heap.size w).alloc (Nat.le_refl _) (.cells #[] 5)).trans (below_append hown hgrow1 (Nat.le_refl _) (by simp))
    simp only [Nat.zero_add, List.nil_append] at hown1
    go_ret
    exact ⟨_, _, rfl, hown1, hb1⟩

section
variable (w : World) (base qn B : Nat) (L : List Link) (Q : Nat → List Msg) (h : NetAt w base qn B L Q)
include h
theorem send_room_wide (x : Link) (hx : x ∈ L) (A : Option Addr) (c Bb : Nat) (b : List UInt8) (hy : Bytes w Bb A b) (hB : Bb ≤ w.heap.size) (hbase : base ≤ w.heap.size) (hm : b.length ≤ 140737488355328) (hq : (Q x.c).length < 8) :
    Calls Try.prog 13 #[.pointer (some ⟨qn, 0, none⟩), .int .i64 x.f, .int .i64 x.t, .slice A b.length c] w fun e w' => e = .returned (.int .i64 0) ∧ ∃ m : Msg, m.l = b ∧ w'.ownsRow w.heap.size 5 1 m.val b.length (bytesV b) ∧
      NetAt w' base qn B L (fun k => if k = x.c then Q x.c ++ [m] else Q k) ∧ Turns w w' ∧ Below base w w' := by
  go_enter Try.func13, Try.ntmps13
  go_wp2_with fail
  refine (link_in w base qn B L Q h x hx).mono ?_
  rintro e w1 ⟨rfl, rfl⟩
  go_wp2_with fail
  refine (clone_wide A c Bb b w hy hB (by omega)).mono ?_
  rintro e w2 ⟨A2, c2, rfl, ho2, hb2⟩
  have h2 := h.below hb2
  obtain ⟨⟨s, r, hc⟩, hms⟩ := h2.q x hx
  go_wp2_with fail
  refine (put_list x.c ((Q x.c).map Msg.val) s r _ w2 hc (by rw [List.length_map]; exact hq)).mono ?_
  rintro e w3 ⟨rfl, rfl⟩
  go_wp2
  go_ret
  have hq' : ((Q x.c).map Msg.val ++ [Value.slice A2 b.length c2]).toArray = ((Q x.c ++ [(⟨A2, c2, b⟩ : Msg)]).map Msg.val).toArray := by simp [Msg.val]
  obtain ⟨t1, t2, t3⟩ := h2.turn hx (Q x.c ++ [(⟨A2, c2, b⟩ : Msg)]) (s + 1) r (fun m hm => by
    rcases List.mem_append.1 hm with hm | hm
    · exact hms m hm
    · rw [List.mem_singleton] at hm
      subst hm
      exact Lies.of_own ho2)
  rw [hq']
  refine ⟨rfl, ⟨A2, c2, b⟩, rfl, ?_, t1, (Turns.of_below hb2).trans t2, (hb2.mono hbase).trans t3⟩
  refine ⟨ho2.1, ?_⟩
  rcases ho2.2 with hn | ⟨g, cap, cur, hv, hg, hh, rest⟩
  · exact .inl hn
  · exact .inr ⟨g, cap, cur, hv, hg, t2.block _ _ hh rfl, rest⟩
theorem send_full_wide (x : Link) (hx : x ∈ L) (A : Option Addr) (c Bb : Nat) (b : List UInt8) (hy : Bytes w Bb A b) (hB : Bb ≤ w.heap.size) (hm : b.length ≤ 140737488355328) (hq : 8 ≤ (Q x.c).length) :
    Calls Try.prog 13 #[.pointer (some ⟨qn, 0, none⟩), .int .i64 x.f, .int .i64 x.t, .slice A b.length c] w fun e w' => e = .returned (.int .i64 141) ∧ NetAt w' base qn B L Q ∧ Below w.heap.size w w' := by
  go_enter Try.func13, Try.ntmps13
  go_wp2_with fail
  refine (link_in w base qn B L Q h x hx).mono ?_
  rintro e w1 ⟨rfl, rfl⟩
  go_wp2_with fail
  refine (clone_wide A c Bb b w hy hB (by omega)).mono ?_
  rintro e w2 ⟨A2, c2, rfl, ho2, hb2⟩
  have h2 := h.below hb2
  obtain ⟨⟨s, r, hc⟩, hms⟩ := h2.q x hx
  go_wp2_with fail
  refine (put_none x.c ((Q x.c).map Msg.val) s r _ w2 hc (by rw [List.length_map]; exact hq)).mono ?_
  rintro e w3 ⟨rfl, rfl⟩
  go_wp2
  go_ret
  exact ⟨rfl, h2, hb2⟩

end
/-- The tree of three brokers in a row. -/
def p2 (k : Nat) : Nat := k - 1
theorem const_three (w : World) (m : Nat × Nat) : TreeAt (w.alloc (.cells #[.int .i64 (-1), .int .i64 0, .int .i64 1] 3 m)) (w.heap.size + 1) (some ⟨w.heap.size, 0, none⟩) 3 p2 := by
  refine ⟨by omega, by omega, fun k h1 h2 => by unfold p2; omega, _, _, rfl, by omega, ?_, fun k h1 h2 => ?_⟩
  · rw [World.cell?_alloc_mark]
    rfl
  · rw [World.cell?_alloc_mark]
    match k, h1, h2 with
    | 1, _, _ => rfl
    | 2, _, _ => rfl
end Go.Proofs.Ytbniaojldjhemaa
