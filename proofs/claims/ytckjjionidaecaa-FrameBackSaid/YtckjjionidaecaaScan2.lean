/- The walk of the reference's Scan: the frames of the plain laws, each in a row of the call's own. -/
import Derived.Test.YtckjjionidaecaaScan
import Derived.Deep.QuietTactic
import Derived.BigQuiet
namespace Go.Proofs.Ytckjjionidaecaa
open Go.RowKit

theorem two_bytes (l : List UInt8) (a : Nat) (h : a + 1 < l.length) : Fr.number ((l.drop a).take 2) = l[a].toNat * 256 + l[a + 1].toNat := by
  have e : (l.drop a).take 2 = [l[a], l[a + 1]] := by
    rw [List.drop_eq_getElem_cons (by omega : a < l.length), List.drop_eq_getElem_cons h]
    rfl
  rw [e]
  simp [Fr.number]

theorem below_draws {B n : Nat} {a w : World} (h : Below B a w) : Below B a (w.drewN n) := ⟨h.os, h.tape, h.output, h.size, h.block⟩
theorem got_draws {base n : Nat} {w : World} {v : Value} {ls : List (List UInt8)} (h : Got w base v ls) : Got (w.drewN n) base v ls := h

set_option maxHeartbeats 4000000 in
theorem refscan_any (A : Option Addr) (c : Nat) (l : List UInt8) (w : World) (h : Bytes w w.heap.size A l) (hc : l.length ≤ c) (hm : l.length ≤ 1048576) :
    Calls Try.prog 13 #[.slice A l.length c] w fun e w' => ∃ v, e = .returned (.tuple #[v, .int .i64 (Fr.used (Fr.full l))]) ∧ Got w' w.heap.size v (Fr.full l) ∧ Below w.heap.size w w' := by
  obtain ⟨i0, hi0, hz0, hz1, hz2⟩ := info_parts Try.info23
  obtain ⟨i5, hj0, hy0, hy1, hy2⟩ := info_parts Try.info5
  go_enter Try.func13, Try.ntmps13
  go_wp2_with fail
  go_loopw [4, 5] (fun v i wr => ∃ done : List (List UInt8), i = .int .i64 (Fr.used done) ∧ Fr.used done ≤ l.length ∧ Fr.full l = done ++ Fr.full (l.drop (Fr.used done)) ∧ Got wr w.heap.size v done ∧ Below w.heap.size w wr)
    (fun _ i _ => l.length - (intOf i).toNat)
  case atStart => exact ⟨[], rfl, Nat.zero_le _, rfl, Got.none_ _ _, Below.refl _ _⟩
  case round =>
    obtain ⟨done, rfl, hle, hfull, hgot, hbw⟩ := hrel
    obtain ⟨at_, hat⟩ : ∃ a, a = Fr.used done := ⟨_, rfl⟩
    rw [← hat] at hle hfull ⊢
    have HF := Lib.hid hfull
    have HA := Lib.hid hat
    clear hfull hat
    by_cases h6 : at_ + 6 ≤ l.length
    · obtain ⟨blk, off, rfl, hblk, hcell⟩ := h.open_ (by rw [bytesV_length]; omega)
      have hbwr := h.below hbw
      have cx : wr.cell? ⟨blk, off + at_, none⟩ = some (.int .u8 (l[at_].toNat : Int)) := (hbw.cell hblk).trans (hcell at_ _ (bytesV_get l (by omega)))
      have cy : wr.cell? ⟨blk, off + (at_ + 1), none⟩ = some (.int .u8 (l[at_ + 1].toNat : Int)) := (hbw.cell hblk).trans (hcell (at_ + 1) _ (bytesV_get l (by omega)))
      clear hcell
      have hx := l[at_].toNat_lt
      have hy := l[at_ + 1].toNat_lt
      obtain ⟨n, hn⟩ : ∃ n, n = Fr.number ((l.drop at_).take 2) := ⟨_, rfl⟩
      have hn2 : n = l[at_].toNat * 256 + l[at_ + 1].toNat := by rw [hn, two_bytes l at_ (by omega)]
      generalize l[at_].toNat = x at cx hx hn2
      generalize l[at_ + 1].toNat = y at cy hy hn2
      have HN := Lib.hid hn
      clear hn
      have hz : n < 65536 := by omega
      by_cases hl : l.length < at_ + 6 + n
      · have hend : Fr.full l = done := by rw [HF.out, end_bad HN.out (.inr (.inr hl)), List.append_nil]
        have HE := Lib.hid hend
        clear hend
        have HN2 := Lib.hid hn2
        subst hn2
        go_wp2
        go_quiet (fail)
        go_wp2
        go_ret2
        exact ⟨_, by rw [HE.out, HA.out]; rfl, by rw [HE.out]; exact got_draws hgot, below_draws hbw⟩
      · obtain ⟨p, hp, hpl⟩ : ∃ p, p = (l.drop (at_ + 6)).take n ∧ n = p.length := ⟨_, rfl, by rw [List.length_take, List.length_drop]; omega⟩
        obtain ⟨m, hm4⟩ : ∃ m, m = Fr.number ((l.drop (at_ + 2)).take 4) := ⟨_, rfl⟩
        have HM := Lib.hid hm4
        have HP := Lib.hid hp
        have hbp : ∀ A', (0 < p.length → A' = some ⟨blk, off + (at_ + 6), none⟩) → Bytes w w.heap.size A' p := by
          intro A' hA
          have := h.cut (k := at_ + 6) (n := n) (by rw [bytesV_length]; omega) A' (fun h0 => by rw [hA (by omega)]; simp [Addr.add])
          rw [bytesV_cut, ← hp] at this
          exact this
        clear hm4 hp
        have HPL := Lib.hid hpl
        have HN2 := Lib.hid hn2
        have hbp0 := hbp (some ⟨blk, off + (at_ + 6), none⟩) (fun _ => rfl)
        have hown0 := World.ownsRow_made (e := 5) (size := 1) wr #[] 0 (Nat.le_refl _) (Nat.zero_le _) rfl
        by_cases h0 : n = 0
        · have hend : Fr.full l = done := by rw [HF.out, end_bad HN.out (.inl h0), List.append_nil]
          have HE := Lib.hid hend
          have hxy : (x : Int) * 256 + (y : Int) = 0 := by omega
          have HXY := Lib.hid hxy
          clear hend hxy hpl hn2 hl hz h0 hbp hbp0 hbwr
          by_cases g4 : c = at_ + 6
          · subst g4
            go_wp2
            go_quiet (fail)
            simp only [HXY.out]
            go_wp2_with fail
            refine (refwrap_none _ _ _ _ rfl).mono ?_
            rintro e w2 ⟨rfl, rfl⟩
            go_wp2
            go_quiet (fail)
            go_wp2
            go_ret2
            have hba : Below w.heap.size w (wr.alloc (.cells #[] 5)) := hbw.alloc hbw.size _
            have hga : Got (wr.alloc (.cells #[] 5)) w.heap.size u4 done := hgot.below ((Below.refl _ _).alloc (Nat.le_refl _) _)
            exact ⟨_, by rw [HE.out, HA.out]; rfl, by rw [HE.out]; exact hga, ⟨hba.os, hba.tape, hba.output, hba.size, hba.block⟩⟩
          · go_wp2
            go_quiet (fail)
            simp only [HXY.out]
            go_wp2_with fail
            refine (refwrap_none _ _ _ _ rfl).mono ?_
            rintro e w2 ⟨rfl, rfl⟩
            go_wp2
            go_quiet (fail)
            go_wp2
            go_ret2
            have hba : Below w.heap.size w (wr.alloc (.cells #[] 5)) := hbw.alloc hbw.size _
            have hga : Got (wr.alloc (.cells #[] 5)) w.heap.size u4 done := hgot.below ((Below.refl _ _).alloc (Nat.le_refl _) _)
            exact ⟨_, by rw [HE.out, HA.out]; rfl, by rw [HE.out]; exact hga, ⟨hba.os, hba.tape, hba.output, hba.size, hba.block⟩⟩
        · have g4 : ¬ c = at_ + 6 := by omega
          have hp0 : 0 < p.length := by omega
          have hxy : (x : Int) * 256 + (y : Int) = (p.length : Int) := by omega
          have HXY := Lib.hid hxy
          clear hxy hpl
          have hln : p.length < 65536 := by have := HPL.out; omega
          have hl2 : at_ + 6 + p.length ≤ l.length := by have := HPL.out; omega
          clear hn2 hl hz h0
          have em := Lib.hid (show at_ + 6 + p.length - (at_ + 6) = p.length by omega)
          go_wp2
          go_quiet (fail)
          simp only [HXY.out]
          go_wp2_with (at_builtin; rw [em.out]; refine wpList_append_from _ rfl (.tmp 37) (.tmp 45) 23 rfl wr.heap.size 5 i5 _ 1 Try.underlying23 hj0 hy0 hy1 hy2 rfl _ 0 [] rfl (by exact hown0) w.heap.size (some ⟨blk, off + (at_ + 6), none⟩) p.length (c - (at_ + 6)) (bytesV p) rfl (bytesV_length p) (by exact (hbp0.below hbw).alloc hbw.size (.cells #[] 5)) (bytesV_one p) (by unfold maxLen; omega) (by omega) (by simp) ?_; intro A1 c1 w1 hown1 hg1 hat1)
          simp only [Nat.zero_add, List.nil_append] at hown1
          have hs0 : w.heap.size ≤ wr.heap.size := hbw.size
          have hown0' : ((wr.drewN nq).alloc (.cells #[] 5)).ownsRow wr.heap.size 5 1 (.slice (some ⟨wr.heap.size, 0, none⟩) 0 0) 0 [] := hown0
          have hb1 : Below wr.heap.size wr w1 := ((below_draws (n := nq) (Below.refl wr.heap.size wr)).alloc (Nat.le_refl _) (.cells #[] 5)).trans (below_append hown0' hg1 (Nat.le_refl _) (by simp))
          by_cases h4 : 4000 < p.length
          · refine (refwrap_great A1 c1 p.length w1 h4 (by omega)).mono ?_
            rintro e w2 ⟨rfl, rfl⟩
            have hend : Fr.full l = done := by rw [HF.out, end_bad HN.out (.inr (.inl (by have := HPL.out; omega))), List.append_nil]
            have HE := Lib.hid hend
            clear hend
            go_wp2
            go_quiet (fail)
            go_wp2
            go_ret2
            exact ⟨_, by rw [HE.out, HA.out]; rfl, by rw [HE.out]; exact got_draws (hgot.below hb1), below_draws (hbw.trans (hb1.mono hs0))⟩
          · refine (refwrap_any A1 c1 p w1 (Lies.of_own hown1) hp0 (by omega)).mono ?_
            rintro e w2 ⟨A2, c2, rfl, hown2, hb2⟩
            have t1 := fun k => run_text (P := Try.prog) (w2.drewN k) 23 9 5 (Lies.of_own hown2) Try.underlying23 Try.underlying5 Try.underlying9 (6 + p.length) c2 (by rw [Fr.wrap_length])
            have hbw2 : Below w.heap.size w w2 := hbw.trans ((hb1.mono hs0).trans (hb2.mono (Nat.le_trans hs0 hb1.size)))
            have hby : Bytes w2 w.heap.size (some ⟨blk, off + at_, none⟩) ((l.drop at_).take (6 + p.length)) := by
              have := (h.below hbw2).cut (k := at_) (n := 6 + p.length) (by rw [bytesV_length]; omega) (some ⟨blk, off + at_, none⟩) (fun _ => by simp [Addr.add])
              rwa [bytesV_cut] at this
            have t2 := fun k => run_text (P := Try.prog) (w2.drewN k) 23 9 5 (hby.drewN k) Try.underlying23 Try.underlying5 Try.underlying9 (at_ + 6 + p.length - at_) (c - at_) (by rw [List.length_take, List.length_drop]; omega)
            have g6 : ¬ c = at_ := by omega
            have q1 : (0 : Int) ≤ (at_ : Int) + 6 + p.length := by omega
            have q2 : (at_ : Int) ≤ (at_ : Int) + 6 + p.length := by omega
            have q3 : (at_ : Int) + 6 + p.length ≤ c := by omega
            have q4 : IntKind.i64.wrap ((at_ : Int) + 6) = at_ + 6 := IntWalk.i64_in _ (by omega)
            have q5 : IntKind.i64.wrap ((at_ : Int) + 6 + p.length) = at_ + 6 + p.length := IntWalk.i64_in _ (by omega)
            have q6 : ((at_ : Int) + 6 + p.length).toNat = at_ + 6 + p.length := by omega
            have hiff : Fr.wrap p = (l.drop at_).take (6 + p.length) ↔ m = Fr.sum p := by
              have := Fr.wrap_is (b := l.drop at_) (n := n) (by rw [List.length_drop]; omega) HN.out (by rw [List.length_drop, HPL.out]; omega)
              rw [List.drop_drop, List.drop_drop, ← HP.out, ← HM.out] at this
              rwa [HPL.out] at this
            have hb12 : Below wr.heap.size wr w2 := hb1.trans (hb2.mono hb1.size)
            obtain ⟨Ao, co, xs, rfl, ho, hx2⟩ := hgot
            have hdl : done.length ≤ 1048576 := by have := used_len done; have := HA.out; omega
            by_cases hs : m = Fr.sum p
            · have HG := Lib.hid (goes_on (by omega) HN.out (by have := HPL.out; omega) (by have := HPL.out; omega) (by have := HPL.out; omega) HP.out HM.out hs)
              have gE : (Fr.wrap p == (l.drop at_).take (6 + p.length)) = true := by rw [beq_iff_eq]; exact hiff.2 hs
              have hu : w2.ownsRow wr.heap.size 5 1 (.slice A1 p.length c1) p.length (bytesV p) := own_below hown1 hb2
              clear hiff hs hbwr hbp hbp0
              go_wp2
              go_quiet (fail)
              have ho1 : ((w2.drewN nq).alloc (.cells #[.slice A1 p.length c1] 23)).ownsRow w.heap.size 23 1 (.slice Ao done.length co) done.length xs := (own_below ho hb12).alloc (.cells #[.slice A1 p.length c1] 23)
              go_wp2_with (at_builtin; refine wpList_append_from _ rfl (.tmp 69) (.tmp 71) 27 rfl w.heap.size 23 i0 _ 24 Try.underlying27 hi0 hz0 hz1 hz2 rfl _ done.length xs rfl ho1 (w2.heap.size + 1) (some ⟨w2.heap.size, 0, none⟩) 1 1 [.slice A1 p.length c1] rfl rfl (Lies.one (w2.drewN nq) 23 _) (by simp [Value.oneCell']) (by unfold maxLen; omega) (by omega) (by have := hbw2.size; simp; omega) ?_; intro A3 c3 w3 ho3 hg3 hat3)
              have R := Got.step (w1 := w2.drewN nq) hs0 ho hx2 hu (below_draws hb12) ho3 hg3
              go_roundw
              case rel => exact ⟨done ++ [p], by rw [Fr.used_snoc, ← HA.out]; go_num, by rw [Fr.used_snoc, ← HA.out]; omega, by rw [HF.out, HG.out, Fr.used_snoc, ← HA.out, List.append_assoc, Nat.add_assoc]; rfl, R.1, hbw.trans R.2⟩
              case measure => simp [intOf]; omega
            · have hend : Fr.full l = done := by rw [HF.out, end_sum HN.out HP.out HM.out hs, List.append_nil]
              have HE := Lib.hid hend
              have gE : (Fr.wrap p == (l.drop at_).take (6 + p.length)) = false := by rw [beq_eq_false_iff_ne]; exact fun h => hs (hiff.1 h)
              have hgot2 : Got w2 w.heap.size (.slice Ao done.length co) done := Got.below ⟨Ao, co, xs, rfl, ho, hx2⟩ hb12
              clear hend hiff hs hbwr hbp hbp0
              go_wp2
              go_quiet (fail)
              go_wp2
              go_ret2
              exact ⟨_, by rw [HE.out, HA.out]; rfl, by rw [HE.out]; exact got_draws hgot2, below_draws hbw2⟩
    · have hend : Fr.full l = done := by rw [HF.out, end_short (by omega), List.append_nil]
      have HE := Lib.hid hend
      clear hend
      go_wp2
      go_ret2
      exact ⟨_, by rw [HE.out, HA.out]; rfl, by rw [HE.out]; exact hgot, hbw⟩
end Go.Proofs.Ytckjjionidaecaa
