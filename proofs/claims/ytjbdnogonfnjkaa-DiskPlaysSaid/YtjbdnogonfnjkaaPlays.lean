/- DiskPlays: for every int and script the law returns true, and the script reads behind the call as before. No conditions. -/
import Derived.Test.YtjbdnogonfnjkaaDid
import Derived.Deep.RegionHeld3
namespace Go.Proofs.Ytjbdnogonfnjkaa.diskPlays
open Go.ChangeShapes Go.WideShapes Go.ChangeAt Go.RowKit

set_option maxRecDepth 100000 in
set_option maxHeartbeats 4000000 in
theorem walk_bad (room : Int) (A : Option Addr) (c len : Nat) (w : World) (h : room < 0 ∨ 1048576 < room) :
    Calls Try.prog 5 #[.int .i64 room, .slice A len c] w fun e w' => e = .returned (.bool true) ∧ Below w.heap.size w w' := by
  go_enter Try.func5, Try.ntmps5
  go_wp2_with fail
  refine (awake_any _).mono ?_
  rintro e w1 ⟨rfl, hb1⟩
  go_wp2_with fail
  refine (new_bad room w1 h).mono ?_
  rintro e w2 ⟨rfl, rfl⟩
  go_wp2_with fail
  refine (ref_bad room w1 h).mono ?_
  rintro e w2 ⟨rfl, rfl⟩
  go_wp2_with fail
  go_ret
  exact ⟨rfl, hb1⟩

theorem did_any (w0 w : World) (q q2 room : Nat) (x : Elem) (hT : Both w0 q q2 room w) (hy : Bytes w w0.heap.size x.A x.b) (hm : x.b.length ≤ 300) (hn : -9223372036854775808 ≤ x.n ∧ x.n ≤ 9223372036854775807) :
    Calls Try.prog 15 #[.pointer (some ⟨q, 0, none⟩), .pointer (some ⟨q2, 0, none⟩), .agg #[.int .i64 x.kd, .int .i64 x.n, .slice x.A x.b.length x.c]] w fun e w' => e = .returned (.bool true) ∧ Both w0 q q2 room w' := by
  obtain ⟨kd, n, A, c, b⟩ := x
  obtain ⟨r, r2, l, last, hT, hb⟩ := hT
  by_cases h1 : kd = 1
  · subst h1
    by_cases h : l.length + b.length ≤ room
    · exact did_append w0 w q q2 last room r r2 l hT hb n A c b hy hm h
    · exact did_append_full w0 w q q2 last room r r2 l hT hb n A c b.length hm (by omega)
  by_cases h2 : kd = 2
  · subst h2
    exact did_sync w0 w q q2 last room r r2 l hT hb n _
  by_cases h3 : kd = 3
  · subst h3
    by_cases h : n < 0 ∨ (l.length : Int) < n
    · exact did_cut_bad w0 w q q2 last room r r2 l hT hb n _ h
    · simp only at hn
      obtain ⟨k, rfl⟩ : ∃ k : Nat, n = k := ⟨n.toNat, by omega⟩
      exact did_cut w0 w q q2 last room r r2 l hT hb k _ (by omega)
  by_cases h4 : kd = 4
  · subst h4
    by_cases h : b.length ≤ room
    · exact did_swap w0 w q q2 last room r r2 l hT hb n A c b hy hm h
    · exact did_swap_full w0 w q q2 last room r r2 l hT hb n A c b.length (by omega)
  by_cases h5 : kd = 5
  · subst h5
    exact did_crash w0 w q q2 last room r r2 l hT hb n _ hn
  exact did_other w0 w q q2 last room r r2 l hT hb kd n _ h1 h2 h3 h4 h5

theorem _root_.Go.Proofs.Ytjbdnogonfnjkaa.Both.below {w0 w w' : World} {q q2 room : Nat} (h : Both w0 q q2 room w) (hb : Below w.heap.size w w') : Both w0 q q2 room w' := by
  obtain ⟨r, r2, l, last, hT, h0⟩ := h
  exact ⟨r, r2, l, last, hT.below hb, h0.trans (hb.mono h0.size)⟩
set_option maxRecDepth 100000 in
set_option maxHeartbeats 8000000 in
theorem walk_ok (room : Nat) (A : Option Addr) (c len : Nat) (cs : Nat → Elem) (w : World) (hr : room ≤ 1048576) (_hc : len ≤ c) (_hm : c ≤ 9223372036854775807) (h : ScriptAt w w.heap.size A len cs) :
    Calls Try.prog 5 #[.int .i64 room, .slice A len c] w fun e w' => e = .returned (.bool true) ∧ Below w.heap.size w w' := by
  go_enter Try.func5, Try.ntmps5
  go_wp2_with fail
  refine (awake_any _).mono ?_
  rintro e w1 ⟨rfl, hb1⟩
  go_wp2_with fail
  refine (new_disk room w1 (by omega)).mono ?_
  rintro e w2 ⟨rfl, hd2, hb2⟩
  have hq2 := hd2.lt
  go_wp2_with fail
  refine (ref_new room w2 (by omega)).mono ?_
  rintro e w3 ⟨rfl, rfl⟩
  have hs1 := hb1.size
  have HB : Both w1 w1.heap.size w2.heap.size room (w2.alloc (.cells #[.slice none 0 0, .int .i64 0, .int .i64 room] 39)) :=
    ⟨_, _, _, _, ⟨hd2.below ((Below.refl _ _).alloc (Nat.le_refl _) _), Ref.made w2 w1.heap.size room hb2.size hr, by omega, .inl rfl⟩, hb2.alloc hb2.size _⟩
  obtain ⟨q2, hq⟩ : ∃ q2, q2 = w2.heap.size := ⟨_, rfl⟩
  rw [← hq] at HB ⊢
  clear hq hq2 hd2
  go_wp2_with fail
  go_loopw [10, 11] (fun i _ wr => ∃ (k : Nat), k ≤ len ∧ k ≤ 60 ∧ i = .int .i64 k ∧ Both w1 w1.heap.size q2 room wr) (fun i _ _ => len - (intOf i).toNat)
  case atStart => exact ⟨0, by omega, by omega, rfl, HB⟩
  case round =>
    obtain ⟨k, hkl, hk6, rfl, hB⟩ := hrel
    have hb : Below w1.heap.size w1 wr := by obtain ⟨_, _, _, _, _, hb⟩ := hB; exact hb
    by_cases hgo : k < 60 ∧ k < len
    · obtain ⟨hk60, hlt⟩ := hgo
      rcases h with h0 | ⟨g, off, rfl, hg, hE⟩
      · omega
      have hbw := hb1.trans (hb.mono hs1)
      obtain ⟨e0, e1, e2, ey, ec, em, en⟩ := (hE k hlt).below hg hbw
      obtain ⟨x, hx⟩ : ∃ x, x = cs k := ⟨_, rfl⟩
      rw [← hx] at e0 e1 e2 ey ec em en
      clear hE hx
      by_cases h300 : x.b.length ≤ 300
      · have g300 : decide ((300 : Int) < (x.b.length : Int)) = false := by simp; omega
        go_wp2_with fail
        refine (did_any w1 wr _ _ room x hB (ey.more hs1) h300 en).mono ?_
        rintro e w4 ⟨rfl, hB4⟩
        obtain ⟨r, r2, l, last, hT, hb4⟩ := hB4
        have hd4 := hT.d
        obtain ⟨A2, c2, _, hblk, ho2, _⟩ := hT.e
        have c0 := hblk.cell 0
        have c1 := hblk.cell 1
        simp at c0 c1
        have t2 := run_text (P := Try.prog) w4.drew 23 9 5 (Lies.of_own ho2).drew Try.underlying23 Try.underlying5 Try.underlying9 l.length c2 rfl
        have hB4 : Both w1 w1.heap.size q2 room w4 := ⟨_, _, _, _, hT, hb4⟩
        clear hT
        go_wp2_with fail
        have hF4 : Both w1 w1.heap.size q2 room w4.drew := hB4.drewN 1
        clear hB4
        refine wp_region_held_drew (S := (fun w' => w'.cell? ⟨q2, 0, none⟩ = some (.slice A2 l.length c2) ∧ w'.cell? ⟨q2, 1, none⟩ = some (.int .i64 (last : Int)) ∧ (convert 23 9 (.slice A2 l.length c2)).run Try.prog w' = .ok (.string ⟨l.toArray⟩) w')) (by kernel_rfl) (by first | exact ⟨c0, c1, t2⟩ | exact ⟨d0, d1, t5⟩) (fun hHeld => ?_)
        refine wpAnyH_take (i := 0) (v := ?_) (by simp only [List.getElem?_toArray, List.getElem?_cons_zero]; rfl) (by kernel_rfl) (by kernel_rfl) (by kernel_rfl) (by intros; assumption) (Or.inl ⟨by rfl, ?_⟩) hHeld ?_; rotate_left; (intro w hSw; (try dsimp only at hSw); go_simp; try with_reducible rfl)
        try simp only [Act.put, List.setIfInBounds_toArray, List.set_cons_zero, List.set_cons_succ]
        refine wpAnyH_take (i := 1) (v := ?_) (by simp only [List.getElem?_toArray, List.getElem?_cons_succ, List.getElem?_cons_zero]; rfl) (by kernel_rfl) (by kernel_rfl) (by kernel_rfl) (by intros; assumption) (Or.inl ⟨by rfl, ?_⟩) hHeld ?_; rotate_left; (intro w hSw; (try dsimp only at hSw); go_simp; try with_reducible rfl)
        try simp only [Act.put, List.setIfInBounds_toArray, List.set_cons_zero, List.set_cons_succ]
        refine wpAnyH_take (i := 2) (v := ?_) (by simp only [List.getElem?_toArray, List.getElem?_cons_succ, List.getElem?_cons_zero]; rfl) (by kernel_rfl) (by kernel_rfl) (by kernel_rfl) (by intros; assumption) (Or.inl ⟨by rfl, ?_⟩) hHeld ?_; rotate_left; (intro w hSw; (try dsimp only at hSw); go_simp; try with_reducible rfl)
        try simp only [Act.put, List.setIfInBounds_toArray, List.set_cons_zero, List.set_cons_succ]
        refine wpAnyH_take (i := 3) (v := ?_) (by simp only [List.getElem?_toArray, List.getElem?_cons_succ, List.getElem?_cons_zero]; rfl) (by kernel_rfl) (by kernel_rfl) (by kernel_rfl) (by intros; assumption) (Or.inl ⟨by rfl, ?_⟩) hHeld ?_; rotate_left; (intro w hSw; (try dsimp only at hSw); go_simp; try with_reducible rfl)
        try simp only [Act.put, List.setIfInBounds_toArray, List.set_cons_zero, List.set_cons_succ]
        refine wpAnyH_take (i := 6) (v := ?_) (by simp only [List.getElem?_toArray, List.getElem?_cons_succ, List.getElem?_cons_zero]; rfl) (by kernel_rfl) (by kernel_rfl) (by kernel_rfl) (by intros; assumption) (Or.inl ⟨by rfl, ?_⟩) hHeld ?_; rotate_left; (intro w hSw; (try dsimp only at hSw); go_simp; try with_reducible rfl)
        try simp only [Act.put, List.setIfInBounds_toArray, List.set_cons_zero, List.set_cons_succ]
        refine wpAnyH_take (i := 7) (v := ?_) (by simp only [List.getElem?_toArray, List.getElem?_cons_succ, List.getElem?_cons_zero]; rfl) (by kernel_rfl) (by kernel_rfl) (by kernel_rfl) (by intros; assumption) (Or.inl ⟨by rfl, ?_⟩) hHeld ?_; rotate_left; (intro w hSw; (try dsimp only at hSw); go_simp; try with_reducible rfl)
        try simp only [Act.put, List.setIfInBounds_toArray, List.set_cons_zero, List.set_cons_succ]
        refine wpAnyH_take (i := 8) (v := ?_) (by simp only [List.getElem?_toArray, List.getElem?_cons_succ, List.getElem?_cons_zero]; rfl) (by kernel_rfl) (by kernel_rfl) (by kernel_rfl) (by intros; assumption) (Or.inl ⟨by rfl, ?_⟩) hHeld ?_; rotate_left; (intro w hSw; (try dsimp only at hSw); go_simp; try with_reducible rfl)
        try simp only [Act.put, List.setIfInBounds_toArray, List.set_cons_zero, List.set_cons_succ]
        refine wpAnyH_take (i := 9) (v := ?_) (by simp only [List.getElem?_toArray, List.getElem?_cons_succ, List.getElem?_cons_zero]; rfl) (by kernel_rfl) (by kernel_rfl) (by kernel_rfl) (by intros; assumption) (Or.inl ⟨by rfl, ?_⟩) hHeld ?_; rotate_left; (intro w hSw; (try dsimp only at hSw); go_simp; try with_reducible rfl)
        try simp only [Act.put, List.setIfInBounds_toArray, List.set_cons_zero, List.set_cons_succ]
        refine wpAnyH_take (i := 10) (v := ?_) (by simp only [List.getElem?_toArray, List.getElem?_cons_succ, List.getElem?_cons_zero]; rfl) (by kernel_rfl) (by kernel_rfl) (by kernel_rfl) (by intros; assumption) (Or.inl ⟨by rfl, ?_⟩) hHeld ?_; rotate_left; (intro w hSw; (try dsimp only at hSw); go_simp; try with_reducible rfl)
        try simp only [Act.put, List.setIfInBounds_toArray, List.set_cons_zero, List.set_cons_succ]
        refine wpAnyH_ready (rs := [4]) (by kernel_rfl) (by simp) (AllReadyH.cons (by simp only [List.getElem?_toArray, List.getElem?_cons_succ, List.getElem?_cons_zero]; rfl) (fun K hK => ?_) AllReadyH.nil)
        clear hHeld
        go_simp; refine (read_any _ _ _ _ _ _ _ hd4.drew).mono ?_; rintro e w5 ⟨A5, c5, rfl, ho5, hb5⟩; have hd5 := hd4.drew.below hb5; have hF5 := hF4.below hb5; have hblk5 := Blk.below (w := w4.drew) hblk hb5 hblk.lt; have d0 := hblk5.cell 0; have d1 := hblk5.cell 1; simp at d0 d1; have t4 := run_text (P := Try.prog) w5 23 9 5 (Lies.of_own ho5) Try.underlying23 Try.underlying5 Try.underlying9 l.length c5 rfl; have t5 := run_text (P := Try.prog) w5 23 9 5 ((Lies.of_own ho2).drew.below hb5) Try.underlying23 Try.underlying5 Try.underlying9 l.length c2 rfl
        refine hK.out _ _ (by first | exact ⟨c0, c1, t2⟩ | exact ⟨d0, d1, t5⟩) (fun hHeld => ?_)
        clear hK K
        try simp only [Act.put, List.setIfInBounds_toArray, List.set_cons_zero, List.set_cons_succ]
        refine wpAnyH_ready (rs := [5]) (by kernel_rfl) (by simp) (AllReadyH.cons (by simp only [List.getElem?_toArray, List.getElem?_cons_succ, List.getElem?_cons_zero]; rfl) (fun K hK => ?_) AllReadyH.nil)
        clear hHeld
        go_simp
        refine hK.out _ _ (by first | exact ⟨c0, c1, t2⟩ | exact ⟨d0, d1, t5⟩) (fun hHeld => ?_)
        clear hK K
        try simp only [Act.put, List.setIfInBounds_toArray, List.set_cons_zero, List.set_cons_succ]
        refine wpAnyH_take (i := 11) (v := ?_) (by simp only [List.getElem?_toArray, List.getElem?_cons_succ, List.getElem?_cons_zero]; rfl) (by kernel_rfl) (by kernel_rfl) (by kernel_rfl) (by intros; assumption) (Or.inl ⟨by rfl, ?_⟩) hHeld ?_; rotate_left; (intro w hSw; (try dsimp only at hSw); go_simp; try with_reducible rfl)
        try simp only [Act.put, List.setIfInBounds_toArray, List.set_cons_zero, List.set_cons_succ]
        refine wpAnyH_take (i := 12) (v := ?_) (by simp only [List.getElem?_toArray, List.getElem?_cons_succ, List.getElem?_cons_zero]; rfl) (by kernel_rfl) (by kernel_rfl) (by kernel_rfl) (by intros; assumption) (Or.inl ⟨by rfl, ?_⟩) hHeld ?_; rotate_left; (intro w hSw; (try dsimp only at hSw); go_simp; try with_reducible rfl)
        try simp only [Act.put, List.setIfInBounds_toArray, List.set_cons_zero, List.set_cons_succ]
        refine wpAnyH_take (i := 13) (v := ?_) (by simp only [List.getElem?_toArray, List.getElem?_cons_succ, List.getElem?_cons_zero]; rfl) (by kernel_rfl) (by kernel_rfl) (by kernel_rfl) (by intros; assumption) (Or.inl ⟨by rfl, ?_⟩) hHeld ?_; rotate_left; (intro w hSw; (try dsimp only at hSw); go_simp; try with_reducible rfl)
        try simp only [Act.put, List.setIfInBounds_toArray, List.set_cons_zero, List.set_cons_succ]
        refine wpAnyH_take (i := 14) (v := ?_) (by simp only [List.getElem?_toArray, List.getElem?_cons_succ, List.getElem?_cons_zero]; rfl) (by kernel_rfl) (by kernel_rfl) (by kernel_rfl) (by intros; assumption) (Or.inl ⟨by rfl, ?_⟩) hHeld ?_; rotate_left; (intro w hSw; (try dsimp only at hSw); go_simp; try with_reducible rfl)
        try simp only [Act.put, List.setIfInBounds_toArray, List.set_cons_zero, List.set_cons_succ]
        refine wpAnyH_take (i := 16) (v := ?_) (by simp only [List.getElem?_toArray, List.getElem?_cons_succ, List.getElem?_cons_zero]; rfl) (by kernel_rfl) (by kernel_rfl) (by kernel_rfl) (by intros; assumption) (Or.inl ⟨by rfl, ?_⟩) hHeld ?_; rotate_left; (intro w hSw; (try dsimp only at hSw); go_simp; try with_reducible rfl)
        try simp only [Act.put, List.setIfInBounds_toArray, List.set_cons_zero, List.set_cons_succ]
        refine wpAnyH_take (i := 17) (v := ?_) (by simp only [List.getElem?_toArray, List.getElem?_cons_succ, List.getElem?_cons_zero]; rfl) (by kernel_rfl) (by kernel_rfl) (by kernel_rfl) (by intros; assumption) (Or.inl ⟨by rfl, ?_⟩) hHeld ?_; rotate_left; (intro w hSw; (try dsimp only at hSw); go_simp; try with_reducible rfl)
        try simp only [Act.put, List.setIfInBounds_toArray, List.set_cons_zero, List.set_cons_succ]
        refine wpAnyH_take (i := 18) (v := ?_) (by simp only [List.getElem?_toArray, List.getElem?_cons_succ, List.getElem?_cons_zero]; rfl) (by kernel_rfl) (by kernel_rfl) (by kernel_rfl) (by intros; assumption) (Or.inl ⟨by rfl, ?_⟩) hHeld ?_; rotate_left; (intro w hSw; (try dsimp only at hSw); go_simp; try with_reducible rfl)
        try simp only [Act.put, List.setIfInBounds_toArray, List.set_cons_zero, List.set_cons_succ]
        refine wpAnyH_take (i := 19) (v := ?_) (by simp only [List.getElem?_toArray, List.getElem?_cons_succ, List.getElem?_cons_zero]; rfl) (by kernel_rfl) (by kernel_rfl) (by kernel_rfl) (by intros; assumption) (Or.inl ⟨by rfl, ?_⟩) hHeld ?_; rotate_left; (intro w hSw; (try dsimp only at hSw); go_simp; try with_reducible rfl)
        try simp only [Act.put, List.setIfInBounds_toArray, List.set_cons_zero, List.set_cons_succ]
        refine wpAnyH_ready (rs := [15]) (by kernel_rfl) (by simp) (AllReadyH.cons (by simp only [List.getElem?_toArray, List.getElem?_cons_succ, List.getElem?_cons_zero]; rfl) (fun K hK => ?_) AllReadyH.nil)
        clear hHeld
        go_simp; refine (lasting_any _ _ _ _ _ _ _ hd5).mono ?_; rintro e w6 ⟨rfl, rfl⟩
        refine hK.out _ _ (by first | exact ⟨c0, c1, t2⟩ | exact ⟨d0, d1, t5⟩) (fun hHeld => ?_)
        clear hK K
        try simp only [Act.put, List.setIfInBounds_toArray, List.set_cons_zero, List.set_cons_succ]
        refine wpAnyH_take (i := 20) (v := ?_) (by simp only [List.getElem?_toArray, List.getElem?_cons_succ, List.getElem?_cons_zero]; rfl) (by kernel_rfl) (by kernel_rfl) (by kernel_rfl) (by intros; assumption) (Or.inl ⟨by rfl, ?_⟩) hHeld ?_; rotate_left; (intro w hSw; (try dsimp only at hSw); go_simp; try with_reducible rfl)
        try simp only [Act.put, List.setIfInBounds_toArray, List.set_cons_zero, List.set_cons_succ]
        refine wpAnyH_take (i := 21) (v := ?_) (by simp only [List.getElem?_toArray, List.getElem?_cons_succ, List.getElem?_cons_zero]; rfl) (by kernel_rfl) (by kernel_rfl) (by kernel_rfl) (by intros; assumption) (Or.inl ⟨by rfl, ?_⟩) hHeld ?_; rotate_left; (intro w hSw; (try dsimp only at hSw); go_simp; try with_reducible rfl)
        try simp only [Act.put, List.setIfInBounds_toArray, List.set_cons_zero, List.set_cons_succ]
        refine wpAnyH_done (by kernel_rfl) ?_ _
        all_goals go_wp2_with fail
        all_goals go_roundw
        all_goals first
          | (case measure => simp [intOf]; omega)
          | (case rel => exact ⟨k + 1, by omega, by omega, by go_num, hF5⟩)
          | skip
      · have g300 : decide ((300 : Int) < (x.b.length : Int)) = true := by simp; omega
        go_wp2_with fail
        go_roundw
        case measure => simp [intOf]; omega
        case rel => exact ⟨k + 1, by omega, by omega, by go_num, hB⟩
    · rcases (show ¬ k < len ∨ (k < len ∧ ¬ k < 60) by omega) with h1 | ⟨h1, h2⟩
      all_goals
        go_wp2_with fail
        go_ret
        exact ⟨rfl, hb1.trans (hb.mono hs1)⟩
theorem walk (a : Int) (A : Option Addr) (c len : Nat) (cs : Nat → Elem) (w : World) (_hr : (Lit.int .i64 a).wf = true) (hc : len ≤ c) (hm : c ≤ 9223372036854775807) (h : ScriptAt w w.heap.size A len cs) :
    Calls Try.prog 5 #[.int .i64 a, .slice A len c] w fun e w' => e = .returned (.bool true) ∧ Below w.heap.size w w' := by
  by_cases hb : a < 0 ∨ 1048576 < a
  · exact walk_bad a A c len w hb
  · obtain ⟨n, rfl⟩ : ∃ n : Nat, a = n := ⟨a.toNat, by omega⟩
    exact walk_ok n A c len cs w (by omega) hc hm h

theorem own : ownKnob Try.prog.godebug = none := by kernel_rfl
theorem laidOut : laidOutB Try.prog = true := by kernel_rfl
set_option maxRecDepth 100000 in
theorem lifted (os : Os) (started : os.Started) (H : Type) (enc : TypeId × Value → H) :
    ReturnsInHanded {} Try.checked os 5 .any (Rows.diskPlaysSpec.pre6 enc Try.prog Try.f5 Rows.diskPlaysRow.domain false) (Rows.diskPlaysSpec.post enc Try.prog Try.f5 false true false false) := by
  refine returnsInHanded_of_change (C := Try.checked) own started (by kernel_rfl) Try.func5
    (ChangeSpec.witness6 (enc := enc) (C := Try.checked) false ⟨#[], #[.int .i64 0, .slice none 0 0], []⟩ 8 (by kernel_rfl) (by kernel_rfl) (by kernel_rfl) (by kernel_rfl)) ?_
  intro W base args ds gs before hval0 hW _ _
  have hval : ∀ (j : Nat) t v, Try.f5.params[j]? = some t → args[j]? = some v → Value.okWide Try.prog W .any base t v := hval0
  have hW' := hW
  obtain ⟨p, q, hA0, hV, rfl, _, _⟩ := hW
  have hA : DataW.TrodAll enc Try.prog W 0 (fun _ => true) true Try.f5.params.toList args.toList ds p := hA0
  rw [Try.params5] at hA hval
  obtain ⟨v0, vs0, d0, ds0, p0, q0, hargs, rfl, rfl, h0, r0⟩ := trodAll_cons hA
  obtain ⟨v1, vs1, d1, ds1, p1, q1, rfl, rfl, rfl, h1, r1⟩ := trodAll_cons r0
  obtain ⟨rfl, rfl, rfl⟩ := trodAll_nil r1
  obtain rfl : args = #[v0, v1] := by cases args; simp_all
  obtain ⟨rfl, rfl⟩ := trodVars_none hV
  obtain ⟨a0, rfl, rfl, rfl, w0⟩ := open_int Try.underlying3 (hval 0 3 v0 rfl rfl) h0
  obtain ⟨a1, len1, cap1, rfl⟩ := okWide_slice Try.underlying31 (hval 1 31 v1 rfl rfl)
  have k1 := h1
  have lt1 : ∀ x ∈ p1, x.block < W.heap.size := by obtain ⟨m, hm⟩ := k1; exact DataW.trod_lt m _ _ _ hm
  obtain ⟨l1, hc1, hm1, hb1⟩ := open_script Try.underlying31 Try.underlying36 (by kernel_rfl) rfl rfl rfl (by kernel_rfl) (by kernel_rfl) (by kernel_rfl) Try.underlying3 Try.underlying3 Try.underlying23 Try.underlying5 (by kernel_rfl) h1
  clear hA0 hval0
  refine (walk a0 a1 cap1 len1 l1 W w0 hc1 hm1 hb1).mono fun e W' ⟨he, bel⟩ => ?_
  subst he
  exact ⟨_, rfl, _, _, _, [], _, [], hW', trodAll_mk1 (shut_bool Try.underlying4 _), (trodAll_cons_mk (shut_int Try.underlying3 w0) (trodAll_cons_mk (Below.trod laidOut (by kernel_rfl) (of_decide_eq_true (by kernel_rfl)) k1 bel lt1) trodAll_mk0)), rfl, bel.frame _, fun h => by cases h⟩
theorem over : Rows.diskPlaysRow.holds Try.pinned (OpenSpec.ofChange Rows.diskPlaysSpec) :=
  OpenClaim.holds_of_wide 5 Try.f5 rfl rfl rfl rfl rfl rfl rfl ⟨rfl, rfl, rfl, rfl, rfl⟩ rfl rfl rfl rfl rfl (by kernel_rfl) Try.func5 (by kernel_rfl)
    (of_decide_eq_true (by kernel_rfl)) (by unfold Func.isWrapper; first | (rw [if_pos (by decide +kernel)]; kernel_rfl) | (rw [if_neg (by decide +kernel)]; exact ⟨rfl, rfl⟩))
    (fun os started H enc _ => lifted os started H enc)
theorem proved : Rows.DiskPlaysSaid := over
end Go.Proofs.Ytjbdnogonfnjkaa.diskPlays
