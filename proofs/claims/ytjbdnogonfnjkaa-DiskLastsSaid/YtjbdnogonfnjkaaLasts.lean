/- DiskLasts: for every script and int the law returns true, and the script reads behind the call as before. No conditions. -/
import Derived.Test.YtjbdnogonfnjkaaSteps
import Derived.Deep.DeepCutAuto
namespace Go.Proofs.Ytjbdnogonfnjkaa.diskLasts
open Go.ChangeShapes Go.WideShapes Go.ChangeAt Go.RowKit

theorem own_moves {w w' : World} {base e n q : Nat} {r : Option Nat} {v : Value} {xs : List Value} (h : w.ownsRow base e 1 v n xs) (hm : Moves w w' q r) (hq : q < base) (hr : ∀ k, r = some k → k < base) : w'.ownsRow base e 1 v n xs := by
  refine ⟨h.1, ?_⟩
  rcases h.2 with hn | ⟨g, cap, cur, hv, hg, hh, rest⟩
  · exact .inl hn
  · exact .inr ⟨g, cap, cur, hv, hg, (hm.block g (Array.getElem?_eq_some_iff.1 hh).1 (by omega) (fun e => by have := hr g e.symm; omega)).trans hh, rest⟩
theorem cut_row {w : World} {base n c : Nat} {A : Option Addr} {l : List UInt8} (h : w.ownsRow base 5 1 (.slice A l.length c) l.length (bytesV l)) (hn : n ≤ l.length) : w.ownsRow base 5 1 (.slice A n c) n (bytesV (l.take n)) := by
  rw [show bytesV (l.take n) = (bytesV l).take n by simp [bytesV, List.map_take]]
  exact own_cut h hn
theorem lasting_still (q base last room : Nat) (r : Option Nat) (l : List UInt8) (w : World) (hd : Disk w q base r l last room) :
    Calls Try.prog 16 #[.pointer (some ⟨q, 0, none⟩)] w fun e w' => e = .returned (.int .i64 last) ∧ w' = w :=
  (lasting_any q base last room r l w hd).mono fun _ _ h => ⟨h.1, h.2.symm⟩

set_option maxRecDepth 100000 in
set_option maxHeartbeats 20000000 in
theorem walk (A : Option Addr) (c len : Nat) (cs : Nat → Elem) (keep : Int) (w : World) (_hc : len ≤ c) (_hm : c ≤ 9223372036854775807) (h : ScriptAt w w.heap.size A len cs) (hk : (Lit.int .i64 keep).wf = true) :
    Calls Try.prog 6 #[.slice A len c, .int .i64 keep] w fun e w' => e = .returned (.bool true) ∧ Below w.heap.size w w' := by
  go_enter Try.func6, Try.ntmps6
  go_wp2_with fail
  refine (awake_any _).mono ?_
  rintro e w1 ⟨rfl, hb1⟩
  go_wp2_with fail
  refine (new_disk 20000 w1 (by omega)).mono ?_
  rintro e w2 ⟨rfl, hd2, hb2⟩
  have hs1 := hb1.size
  go_wp2_with fail
  go_loopw [8] (fun i wr => ∃ (k : Nat) (r : Option Nat) (l : List UInt8) (last : Nat), k ≤ len ∧ k ≤ 60 ∧ i = .int .i64 k ∧ Disk wr w1.heap.size w1.heap.size r l last 20000 ∧ Below w1.heap.size w1 wr) (fun i _ => len - (intOf i).toNat)
  case atStart => exact ⟨0, _, _, _, by omega, by omega, rfl, hd2, hb2⟩
  case round =>
    obtain ⟨k, r, l, last, hkl, hk6, rfl, hd, hb⟩ := hrel
    by_cases hgo : k < 60 ∧ k < len
    · obtain ⟨hk60, hlt⟩ := hgo
      · rcases h with h0 | ⟨g, off, rfl, hg, hE⟩
        · omega
        · have hbw := hb1.trans (hb.mono hs1)
          obtain ⟨e0, e1, e2, ey, ec, em, en⟩ := (hE k hlt).below hg hbw
          obtain ⟨x, hx⟩ : ∃ x, x = cs k := ⟨_, rfl⟩
          rw [← hx] at e0 e1 e2 ey ec em en
          clear hE hx
          go_wp2_with (first
            | (go_at_call 12; refine (append_step w1 _ _ _ _ _ _ hd hb _ _ _ _ ey (by omega)).mono ?_; rintro e w' ⟨f, r', l', rfl, hf, hd', hb'⟩)
            | (go_at_call 17; refine (sync_far w1 _ _ _ _ _ _ hd hb).mono ?_; rintro e w' ⟨rfl, hd', hb'⟩)
            | (go_at_call 18; refine (cut_step w1 _ _ _ _ _ _ hd hb _).mono ?_; rintro e w' ⟨f, l', last', rfl, hf, hd', hb'⟩)
            | (go_at_call 19; refine (swap_step w1 _ _ _ _ _ _ hd hb _ _ _ _ hbw.size ey).mono ?_; rintro e w' ⟨f, r', l', last', rfl, hf, hd', hb'⟩))
          all_goals go_roundw
          all_goals first
            | (case measure => simp [intOf]; omega)
            | (case rel => exact ⟨k + 1, _, _, _, by omega, by omega, by go_num, hd', hb'⟩)
            | (case rel => exact ⟨k + 1, _, _, _, by omega, by omega, by go_num, hd, hb⟩)
            | skip
    · have hbw := hb1.trans (hb.mono hs1)
      have hle := hd.le
      have hwk := bounds_i64 hk
      clear h
      rcases (show ¬ k < len ∨ (k < len ∧ ¬ k < 60) by omega) with h1 | ⟨h1, h2⟩
      all_goals
        obtain ⟨m, hm⟩ : ∃ m, m = min keep.toNat (l.length - last) := ⟨_, rfl⟩
        have hml : last + m ≤ l.length := by omega
        have hlm : (l.take (last + m)).length = last + m := by rw [List.length_take]; omega
        have hm' := Lib.hid hm
        clear hm
        go_wp2_with fail
        refine (read_any _ _ _ _ _ l wr hd).mono ?_
        rintro e w3 ⟨A3, c3, rfl, ho3, hb3⟩
        have hd3 := hd.below hb3
        go_wp2_with fail
        refine (lasting_any _ _ _ _ _ _ w3 hd3).mono ?_
        rintro e w4 ⟨rfl, rfl⟩
        go_wp2_with fail
        have hb3' := hb.trans (hb3.mono hb.size)
        refine (crash_any _ _ _ _ _ _ keep w3 hd3 (by omega)).mono ?_
        rintro e w5 ⟨rfl, hd5, hm5⟩
        have hb5 := hb3'.trans (hd3.far hm5 hb3'.size)
        rw [← hm'.out] at hd5
        go_wp2_with fail
        refine (read_len _ _ _ _ _ _ _ hlm w5 hd5).mono ?_
        rintro e w6 ⟨A6, c6, rfl, ho6, hb6⟩
        go_upto_region 26 with fail
        obtain ⟨n, hn⟩ : ∃ n, n = last + m := ⟨_, rfl⟩
        go_cut [12] (fun s12 wx => s12 = .int .i64 (n : Int) ∧ w6 = wx)
        case first =>
          go_wp2_with fail
          all_goals (go_meet; refine ⟨?_, rfl⟩; congr 1; have := hm'.out; omega)
        case rest =>
        obtain ⟨rfl, rfl⟩ := hcut
        rw [← hn] at hlm ho6 hd5 hml ⊢
        have hml' : n ≤ l.length := by omega
        clear hm' hn
        have hy3w : Bytes w5 w5.heap.size A3 (l.take n) := Lies.of_own (own_moves (cut_row ho3 hml') hm5 hd.lt.2 (fun k hk => (hd.row k hk).2))
        have hbw6 := hb1.trans ((hb5.trans (hb6.mono hb5.size)).mono hs1)
        have hcap3 := own_cap ho3
        have hnc : n ≤ c3 := by omega
        have hnc' : (n : Int) ≤ (c3 : Int) := by omega
        have hd6 := hd5.below hb6
        have hy3 : Bytes w6 w5.heap.size A3 (l.take n) := hy3w.below hb6
        have t1 := fun j => run_text (P := Try.prog) (w6.drewN j) 23 9 5 (Lies.drewN (Lies.of_own ho6) j) Try.underlying23 Try.underlying5 Try.underlying9 n c6 hlm.symm
        have t2 := fun j => run_text (P := Try.prog) (w6.drewN j) 23 9 5 (Lies.drewN hy3 j) Try.underlying23 Try.underlying5 Try.underlying9 n c3 hlm.symm
        go_wp2_with fail
        go_quiet (first | (go_at_call 16; exact Calls.quiet_of_same (lasting_still _ _ _ _ _ _ _ (hd6.drewN _))))
        go_wp2_with fail
        have hb6' : Below w1.heap.size w1 w6 := hb5.trans (hb6.mono hb5.size)
        refine (crash_any _ _ _ _ _ _ (-1) _ (hd6.drewN _) (by omega)).mono ?_
        rintro e w7 ⟨rfl, hd7, hm7⟩
        have ho7 := own_moves (w := w6.drewN nq) ho6 hm7 hd5.lt.2 (fun k hk => (hd5.row k hk).2)
        have hbw7 : Below w.heap.size w w7 := hb1.trans (((below_draws hb6').trans ((hd6.drewN nq).far hm7 hb6'.size)).mono hs1)
        simp only [show (-1 : Int).toNat = 0 from rfl, Nat.zero_min, Nat.add_zero, List.take_take, Nat.min_self] at hd7
        have hy7 : Bytes w7 w7.heap.size A6 (l.take n) := Lies.of_own ho7
        have t3 := run_text (P := Try.prog) _ 23 9 5 hy7.drew Try.underlying23 Try.underlying5 Try.underlying9 n c6 hlm.symm
        clear t1 t2
        go_wp2_with fail
        go_region_with (go_at_call 13; refine (read_len _ _ _ _ _ _ n hlm _ hd7.drew).mono ?_; rintro e w8 ⟨A8, c8, rfl, ho8, hb8⟩; have t4 := run_text (P := Try.prog) w8 23 9 5 (Lies.of_own ho8) Try.underlying23 Try.underlying5 Try.underlying9 n c8 hlm.symm; have t5 := run_text (P := Try.prog) w8 23 9 5 (hy7.drew.below hb8) Try.underlying23 Try.underlying5 Try.underlying9 n c6 hlm.symm; have hbe := hbw7.drew.trans (hb8.mono hbw7.size))
        all_goals go_wp2
        all_goals go_ret
        all_goals exact ⟨rfl, hbe⟩

theorem own : ownKnob Try.prog.godebug = none := by kernel_rfl
theorem laidOut : laidOutB Try.prog = true := by kernel_rfl
set_option maxRecDepth 100000 in
theorem lifted (os : Os) (started : os.Started) (H : Type) (enc : TypeId × Value → H) :
    ReturnsInHanded {} Try.checked os 6 .any (Rows.diskLastsSpec.pre6 enc Try.prog Try.f6 Rows.diskLastsRow.domain false) (Rows.diskLastsSpec.post enc Try.prog Try.f6 false true false false) := by
  refine returnsInHanded_of_change (C := Try.checked) own started (by kernel_rfl) Try.func6
    (ChangeSpec.witness6 (enc := enc) (C := Try.checked) false ⟨#[], #[.slice none 0 0, .int .i64 0], []⟩ 8 (by kernel_rfl) (by kernel_rfl) (by kernel_rfl) (by kernel_rfl)) ?_
  intro W base args ds gs before hval0 hW _ _
  have hval : ∀ (j : Nat) t v, Try.f6.params[j]? = some t → args[j]? = some v → Value.okWide Try.prog W .any base t v := hval0
  have hW' := hW
  obtain ⟨p, q, hA0, hV, rfl, _, _⟩ := hW
  have hA : DataW.TrodAll enc Try.prog W 0 (fun _ => true) true Try.f6.params.toList args.toList ds p := hA0
  rw [Try.params6] at hA hval
  obtain ⟨v0, vs0, d0, ds0, p0, q0, hargs, rfl, rfl, h0, r0⟩ := trodAll_cons hA
  obtain ⟨v1, vs1, d1, ds1, p1, q1, rfl, rfl, rfl, h1, r1⟩ := trodAll_cons r0
  obtain ⟨rfl, rfl, rfl⟩ := trodAll_nil r1
  obtain rfl : args = #[v0, v1] := by cases args; simp_all
  obtain ⟨rfl, rfl⟩ := trodVars_none hV
  obtain ⟨a0, len0, cap0, rfl⟩ := okWide_slice Try.underlying31 (hval 0 31 v0 rfl rfl)
  have k0 := h0
  have lt0 : ∀ x ∈ p0, x.block < W.heap.size := by obtain ⟨m, hm⟩ := k0; exact DataW.trod_lt m _ _ _ hm
  obtain ⟨l0, hc0, hm0, hb0⟩ := open_script Try.underlying31 Try.underlying36 (by kernel_rfl) rfl rfl rfl (by kernel_rfl) (by kernel_rfl) (by kernel_rfl) Try.underlying3 Try.underlying3 Try.underlying23 Try.underlying5 (by kernel_rfl) h0
  obtain ⟨a1, rfl, rfl, rfl, w1⟩ := open_int Try.underlying3 (hval 1 3 v1 rfl rfl) h1
  clear hA0 hval0
  refine (walk a0 cap0 len0 l0 a1 W hc0 hm0 hb0 w1).mono fun e W' ⟨he, bel⟩ => ?_
  subst he
  exact ⟨_, rfl, _, _, _, [], _, [], hW', trodAll_mk1 (shut_bool Try.underlying4 _), (trodAll_cons_mk (Below.trod laidOut (by kernel_rfl) (of_decide_eq_true (by kernel_rfl)) k0 bel lt0) (trodAll_cons_mk (shut_int Try.underlying3 w1) trodAll_mk0)), rfl, bel.frame _, fun h => by cases h⟩
theorem over : Rows.diskLastsRow.holds Try.pinned (OpenSpec.ofChange Rows.diskLastsSpec) :=
  OpenClaim.holds_of_wide 6 Try.f6 rfl rfl rfl rfl rfl rfl rfl ⟨rfl, rfl, rfl, rfl, rfl⟩ rfl rfl rfl rfl rfl (by kernel_rfl) Try.func6 (by kernel_rfl)
    (of_decide_eq_true (by kernel_rfl)) (by unfold Func.isWrapper; first | (rw [if_pos (by decide +kernel)]; kernel_rfl) | (rw [if_neg (by decide +kernel)]; exact ⟨rfl, rfl⟩))
    (fun os started H enc _ => lifted os started H enc)
theorem proved : Rows.DiskLastsSaid := over
end Go.Proofs.Ytjbdnogonfnjkaa.diskLasts
