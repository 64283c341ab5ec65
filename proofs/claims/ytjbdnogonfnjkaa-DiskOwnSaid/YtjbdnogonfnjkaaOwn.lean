/- DiskOwn: for every []byte the law returns true, and the bytes read behind the call as before. No conditions. -/
import Derived.Test.YtjbdnogonfnjkaaFar
namespace Go.Proofs.Ytjbdnogonfnjkaa.diskOwn
open Go.ChangeShapes Go.WideShapes Go.ChangeAt Go.RowKit

set_option maxRecDepth 100000 in
set_option maxHeartbeats 2000000 in
theorem walk (A : Option Addr) (c : Nat) (l : List UInt8) (w : World) (_hc : l.length ≤ c) (_hm : c ≤ 9223372036854775807) (h : Bytes w w.heap.size A l) :
    Calls Try.prog 4 #[.slice A l.length c] w fun e w' => e = .returned (.bool true) ∧ Below w.heap.size w w' := by
  obtain ⟨i0, hi0, hz0, hz1, hz2⟩ := info_parts Try.info5
  by_cases h0 : l.length = 0
  · rw [h0]
    clear h0 h
    go_enter Try.func4, Try.ntmps4
    go_wp2_with (go_at_call 10; refine (awake_any _).mono ?_; rintro e w1 ⟨rfl, hb1⟩)
    go_ret
    exact ⟨rfl, hb1⟩
  by_cases h5 : 300 < l.length
  · have g0 : ((l.length : Int) == 0) = false := by simp; exact fun e => h0 (by rw [e]; rfl)
    go_enter Try.func4, Try.ntmps4
    go_wp2_with (go_at_call 10; refine (awake_any _).mono ?_; rintro e w1 ⟨rfl, hb1⟩)
    go_ret
    exact ⟨rfl, hb1⟩
  have hp : 0 < l.length := by omega
  have g0 : ((l.length : Int) == 0) = false := by simp; exact fun e => h0 (by rw [e]; rfl)
  clear h0
  go_enter Try.func4, Try.ntmps4
  go_wp2_with fail
  refine (awake_any _).mono ?_
  rintro e w1 ⟨rfl, hb1⟩
  go_wp2_with fail
  refine (new_disk 1000 w1 (by omega)).mono ?_
  rintro e w2 ⟨rfl, hd2, hb2⟩
  have hown := World.ownsRow_made (e := 5) (size := 1) w2 #[] 0 (Nat.le_refl _) (Nat.zero_le _) rfl
  have hy2 : Bytes w2 w2.heap.size A l := ((h.below hb1).below (hb2.mono hb1.size)).more (Nat.le_trans hb1.size hb2.size)
  go_wp2_with (at_builtin; refine wpList_append_from _ rfl (.tmp 25) (.tmp 26) 23 rfl w2.heap.size 5 i0 _ 1 Try.underlying23 hi0 hz0 hz1 hz2 rfl _ 0 [] rfl hown w2.heap.size A l.length c (bytesV l) rfl (bytesV_length l) (hy2.alloc (Nat.le_refl _) _) (bytesV_one l) (by unfold maxLen; omega) (by omega) (by simp) ?_; intro A3 c3 w3 hown3 hg3 hat3)
  simp only [Nat.zero_add, List.nil_append] at hown3
  have hb3 := ((Below.refl w2.heap.size w2).alloc (Nat.le_refl _) (.cells #[] 5)).trans (below_append hown hg3 (Nat.le_refl _) (by simp))
  have hd3 := hd2.below hb3
  obtain ⟨gm, rfl, hgm, hgml, _, hcm, hfm⟩ := own_addr hown3 hp
  have hq2 := hd2.lt
  obtain ⟨x, hx⟩ : ∃ x : UInt8, x = l[0] := ⟨_, rfl⟩
  have hcx : w3.cell? ⟨gm, 0, none⟩ = some (.int .u8 (x.toNat : Int)) := by rw [hx]; exact hcm 0 _ (bytesV_get l hp)
  have hlx : (x.toNat : Int) < 256 := by have := x.toNat_lt; omega
  have hbw3 : Below w.heap.size w w3 := hb1.trans ((hb2.trans (hb3.mono hb2.size)).mono hb1.size)
  have hy3 : Bytes w3 w3.heap.size (some ⟨gm, 0, none⟩) l := Lies.of_own hown3
  have hs3 : w1.heap.size ≤ w3.heap.size := Nat.le_trans hb2.size hb3.size
  have hs1 := hb1.size
  have hs2 := hb2.size
  clear hg3 hat3 hown hown3 hcm hx
  go_wp2_with fail
  refine (append_ok _ _ _ _ _ _ _ [] l w3 w3.heap.size hd3 hs3 hy3 (by simp; omega)).mono ?_
  rintro e w4 ⟨rfl, r4, hd4, hm4, hl4⟩
  simp only [List.nil_append] at hd4
  have c4 := (hm4.cell (g := gm) (i := 0) hgml (by omega) (by simp)).trans hcx
  have f4 := (hm4.frozen (g := gm) (i := 0) hgml (by omega) (by simp)).trans (hfm 0)
  have hne4 : some gm ≠ r4 := by
    rcases hl4 with e | e | ⟨k, e, hk⟩
    · rw [e]; simp
    · rw [e]; simp
    · rw [e]; intro e; injection e; omega
  have hb4 : Below w1.heap.size w1 w4 := (hb2.trans (hb3.mono hb2.size)).trans (hd3.far hm4 hs3)
  clear hfm hy3 hcx
  go_wp2_with fail
  have hd5 : Disk (w4.setCell ⟨gm, 0, none⟩ (.int .u8 (bits .xor .u8 (x.toNat : Int) 1))) w1.heap.size w1.heap.size r4 l 0 1000 := hd4.put_far gm 0 _ (by omega) hne4
  have hb5 : Below w1.heap.size w1 (w4.setCell ⟨gm, 0, none⟩ (.int .u8 (bits .xor .u8 (x.toNat : Int) 1))) := hb4.setCell (p := ⟨gm, 0, none⟩) (by show w1.heap.size ≤ gm; omega) _
  refine (read_any _ _ _ _ _ _ _ hd5).mono ?_
  rintro e w6 ⟨A6, c6, rfl, ho6, hb6⟩
  obtain ⟨gb, rfl, hgb, hgbl, _, hcb, hfb⟩ := own_addr ho6 hp
  have hd6 := hd5.below hb6
  have hb6' : Below w1.heap.size w1 w6 := hb5.trans (hb6.mono hb5.size)
  have hbw6 : Below w.heap.size w w6 := hb1.trans (hb6'.mono hb1.size)
  have t1 := run_text (P := Try.prog) w6 23 9 5 (Lies.of_own ho6) Try.underlying23 Try.underlying5 Try.underlying9 l.length c6 rfl
  have t2 := run_text (P := Try.prog) w6 23 9 5 (h.below hbw6) Try.underlying23 Try.underlying5 Try.underlying9 l.length c rfl
  have c6' : w6.cell? ⟨gb, 0, none⟩ = some (.int .u8 ((l[0] : UInt8).toNat : Int)) := hcb 0 _ (bytesV_get l hp)
  have f6 := hfb 0
  obtain ⟨y, hy⟩ : ∃ x : UInt8, x = l[0] := ⟨_, rfl⟩
  rw [← hy] at c6'
  have hly : (y.toNat : Int) < 256 := by have := y.toNat_lt; omega
  have hgq : w1.heap.size < gb ∧ some gb ≠ r4 := by
    have e1 := hd5.lt.2
    refine ⟨by omega, fun e => ?_⟩
    have := (hd5.row gb e.symm).2
    omega
  have hd7 : Disk (w6.setCell ⟨gb, 0, none⟩ (.int .u8 (bits .xor .u8 (y.toNat : Int) 1))) w1.heap.size w1.heap.size r4 l 0 1000 := hd6.put_far gb 0 _ (by omega) hgq.2
  have hb7 : Below w1.heap.size w1 (w6.setCell ⟨gb, 0, none⟩ (.int .u8 (bits .xor .u8 (y.toNat : Int) 1))) := hb6'.setCell (p := ⟨gb, 0, none⟩) (by show w1.heap.size ≤ gb; omega) _
  clear hcb hfb hy ho6
  go_wp2_with fail
  have hbw7 := hb1.trans (hb7.mono hb1.size)
  have t3 := run_text (P := Try.prog) _ 23 9 5 (h.below hbw7).drew Try.underlying23 Try.underlying5 Try.underlying9 l.length c rfl
  clear t1 t2
  go_region_with (go_at_call 13; refine (read_any _ _ _ _ _ _ _ hd7.drew).mono ?_; rintro e w8 ⟨A8, c8, rfl, ho8, hb8⟩; have t4 := run_text (P := Try.prog) w8 23 9 5 (Lies.of_own ho8) Try.underlying23 Try.underlying5 Try.underlying9 l.length c8 rfl; have t5 := run_text (P := Try.prog) w8 23 9 5 ((h.below hbw7.drew).below (hb8.mono hbw7.size)) Try.underlying23 Try.underlying5 Try.underlying9 l.length c rfl; have hbe := hbw7.drew.trans (hb8.mono hbw7.size))
  all_goals go_wp2
  all_goals go_ret
  all_goals exact ⟨rfl, hbe⟩

theorem own : ownKnob Try.prog.godebug = none := by kernel_rfl
theorem laidOut : laidOutB Try.prog = true := by kernel_rfl
set_option maxRecDepth 100000 in
theorem lifted (os : Os) (started : os.Started) (H : Type) (enc : TypeId × Value → H) :
    ReturnsInHanded {} Try.checked os 4 .any (Rows.diskOwnSpec.pre6 enc Try.prog Try.f4 Rows.diskOwnRow.domain false) (Rows.diskOwnSpec.post enc Try.prog Try.f4 false true false false) := by
  refine returnsInHanded_of_change (C := Try.checked) own started (by kernel_rfl) Try.func4
    (ChangeSpec.witness6 (enc := enc) (C := Try.checked) false ⟨#[], #[.slice none 0 0], []⟩ 8 (by kernel_rfl) (by kernel_rfl) (by kernel_rfl) (by kernel_rfl)) ?_
  intro W base args ds gs before hval0 hW _ _
  have hval : ∀ (j : Nat) t v, Try.f4.params[j]? = some t → args[j]? = some v → Value.okWide Try.prog W .any base t v := hval0
  have hW' := hW
  obtain ⟨p, q, hA0, hV, rfl, _, _⟩ := hW
  have hA : DataW.TrodAll enc Try.prog W 0 (fun _ => true) true Try.f4.params.toList args.toList ds p := hA0
  rw [Try.params4] at hA hval
  obtain ⟨v0, vs0, d0, ds0, p0, q0, hargs, rfl, rfl, h0, r0⟩ := trodAll_cons hA
  obtain ⟨rfl, rfl, rfl⟩ := trodAll_nil r0
  obtain rfl : args = #[v0] := by cases args; simp_all
  obtain ⟨rfl, rfl⟩ := trodVars_none hV
  obtain ⟨a0, len0, cap0, rfl⟩ := okWide_slice Try.underlying23 (hval 0 23 v0 rfl rfl)
  have k0 := h0
  have lt0 : ∀ x ∈ p0, x.block < W.heap.size := by obtain ⟨m, hm⟩ := k0; exact DataW.trod_lt m _ _ _ hm
  obtain ⟨l0, hl0, hc0, hm0, hb0⟩ := open_bytes Try.underlying23 Try.underlying5 (by kernel_rfl) h0
  subst hl0
  clear hA0 hval0
  refine (walk a0 cap0 l0 W hc0 hm0 hb0).mono fun e W' ⟨he, bel⟩ => ?_
  subst he
  exact ⟨_, rfl, _, _, _, [], _, [], hW', trodAll_mk1 (shut_bool Try.underlying4 _), (trodAll_cons_mk (Below.trod laidOut (by kernel_rfl) (of_decide_eq_true (by kernel_rfl)) k0 bel lt0) trodAll_mk0), rfl, bel.frame _, fun h => by cases h⟩
theorem over : Rows.diskOwnRow.holds Try.pinned (OpenSpec.ofChange Rows.diskOwnSpec) :=
  OpenClaim.holds_of_wide 4 Try.f4 rfl rfl rfl rfl rfl rfl rfl ⟨rfl, rfl, rfl, rfl, rfl⟩ rfl rfl rfl rfl rfl (by kernel_rfl) Try.func4 (by kernel_rfl)
    (of_decide_eq_true (by kernel_rfl)) (by unfold Func.isWrapper; first | (rw [if_pos (by decide +kernel)]; kernel_rfl) | (rw [if_neg (by decide +kernel)]; exact ⟨rfl, rfl⟩))
    (fun os started H enc _ => lifted os started H enc)
theorem proved : Rows.DiskOwnSaid := over
end Go.Proofs.Ytjbdnogonfnjkaa.diskOwn
