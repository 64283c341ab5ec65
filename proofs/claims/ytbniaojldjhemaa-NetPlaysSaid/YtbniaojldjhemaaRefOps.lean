/- The walks of the reference's other operations. -/
import Derived.Test.YtbniaojldjhemaaRefTake
namespace Go.Proofs.Ytbniaojldjhemaa
open Go.Conc Go.RowKit Go.Maps

/-- The reference knows no link from f to t. -/
abbrev NoLink (w : World) (qr : Nat) (f t : Int) : Prop := Calls Try.prog 35 #[.pointer (some ⟨qr, 0, none⟩), .int .i64 f, .int .i64 t] w fun e w' => e = .returned (.bool false) ∧ w = w'

section
variable (w : World) (qr : Nat) (f t : Int) (hl : NoLink w qr f t)
include hl
theorem rsend_no (v : Value) : Calls Try.prog 29 #[.pointer (some ⟨qr, 0, none⟩), .int .i64 f, .int .i64 t, v] w fun e w' => e = .returned (.int .i64 140) ∧ w = w' := by
  go_enter Try.func29, Try.ntmps29
  go_wp2_with fail
  refine hl.mono ?_
  rintro e w1 ⟨rfl, rfl⟩
  go_wp2
  go_ret
  exact ⟨rfl, rfl⟩
theorem rtake_no : Calls Try.prog 30 #[.pointer (some ⟨qr, 0, none⟩), .int .i64 f, .int .i64 t] w fun e w' => e = .returned (.tuple #[.slice none 0 0, .int .i64 140]) ∧ w = w' := by
  go_enter Try.func30, Try.ntmps30
  go_wp2_with fail
  refine hl.mono ?_
  rintro e w1 ⟨rfl, rfl⟩
  go_wp2
  go_ret2
  exact ⟨rfl, rfl⟩
theorem rdrop_no : Calls Try.prog 31 #[.pointer (some ⟨qr, 0, none⟩), .int .i64 f, .int .i64 t] w fun e w' => e = .returned (.int .i64 140) ∧ w = w' := by
  go_enter Try.func31, Try.ntmps31
  go_wp2_with fail
  refine (rtake_no w qr f t hl).mono ?_
  rintro e w1 ⟨rfl, rfl⟩
  go_wp2
  go_ret
  exact ⟨rfl, rfl⟩
theorem rtwice_no : Calls Try.prog 32 #[.pointer (some ⟨qr, 0, none⟩), .int .i64 f, .int .i64 t] w fun e w' => e = .returned (.int .i64 140) ∧ w = w' := by
  go_enter Try.func32, Try.ntmps32
  go_wp2_with fail
  refine hl.mono ?_
  rintro e w1 ⟨rfl, rfl⟩
  go_wp2
  go_ret
  exact ⟨rfl, rfl⟩
theorem rturn_no : Calls Try.prog 33 #[.pointer (some ⟨qr, 0, none⟩), .int .i64 f, .int .i64 t] w fun e w' => e = .returned (.int .i64 140) ∧ w = w' := by
  go_enter Try.func33, Try.ntmps33
  go_wp2_with fail
  refine (rtake_no w qr f t hl).mono ?_
  rintro e w1 ⟨rfl, rfl⟩
  go_wp2
  go_ret
  exact ⟨rfl, rfl⟩
end

section
variable (w : World) (base qr n : Nat) (p : Nat → Nat) (M : Nat → Nat → List (List UInt8)) (h : RefAt w base qr n p M) (f t : Nat) (hf : f < n) (ht : t < n) (hl : ((par p f == t) || (par p t == f)) = true)
include h hf ht hl
theorem rsend_full (v : Value) (h8 : 8 ≤ (M f t).length) : Calls Try.prog 29 #[.pointer (some ⟨qr, 0, none⟩), .int .i64 f, .int .i64 t, v] w fun e w' => e = .returned (.int .i64 141) ∧ w = w' := by
  obtain ⟨bk, off, cp, c0, _, _, hn⟩ := h.par_cell
  obtain ⟨A, c, cr, _, _⟩ := h.rows f t (by omega) (by omega)
  obtain ⟨m, hm⟩ : ∃ m, m = (M f t).length := ⟨_, rfl⟩
  rw [← hm] at cr h8
  have e1 : (f : Int) < 16 := by omega
  have e2 : (t : Int) < 16 := by omega
  have hlk := rlink_near w base qr n p M h f t hf ht
  rw [hl] at hlk
  have g8 : (8 : Int) ≤ (m : Int) := by omega
  clear hl hm h
  go_enter Try.func29, Try.ntmps29
  go_wp2_with fail
  refine hlk.mono ?_
  rintro e w1 ⟨rfl, rfl⟩
  go_wp2
  go_ret
  exact ⟨rfl, rfl⟩
theorem rtake_empty (hM : M f t = []) : Calls Try.prog 30 #[.pointer (some ⟨qr, 0, none⟩), .int .i64 f, .int .i64 t] w fun e w' => e = .returned (.tuple #[.slice none 0 0, .int .i64 141]) ∧ w = w' := by
  obtain ⟨bk, off, cp, c0, _, _, hn⟩ := h.par_cell
  obtain ⟨A, c, cr, _, _⟩ := h.rows f t (by omega) (by omega)
  rw [hM, List.length_nil] at cr
  have e1 : (f : Int) < 16 := by omega
  have e2 : (t : Int) < 16 := by omega
  have hlk := rlink_near w base qr n p M h f t hf ht
  rw [hl] at hlk
  clear hl h hM
  go_enter Try.func30, Try.ntmps30
  go_wp2_with fail
  refine hlk.mono ?_
  rintro e w1 ⟨rfl, rfl⟩
  go_wp2
  go_ret2
  exact ⟨rfl, rfl⟩
theorem rdrop_empty (hM : M f t = []) : Calls Try.prog 31 #[.pointer (some ⟨qr, 0, none⟩), .int .i64 f, .int .i64 t] w fun e w' => e = .returned (.int .i64 141) ∧ w = w' := by
  have hc := rtake_empty w base qr n p M h f t hf ht hl hM
  clear hM hl
  go_enter Try.func31, Try.ntmps31
  go_wp2_with fail
  refine hc.mono ?_
  rintro e w1 ⟨rfl, rfl⟩
  go_wp2
  go_ret
  exact ⟨rfl, rfl⟩
theorem rturn_empty (hM : M f t = []) : Calls Try.prog 33 #[.pointer (some ⟨qr, 0, none⟩), .int .i64 f, .int .i64 t] w fun e w' => e = .returned (.int .i64 141) ∧ w = w' := by
  have hc := rtake_empty w base qr n p M h f t hf ht hl hM
  clear hM hl
  go_enter Try.func33, Try.ntmps33
  go_wp2_with fail
  refine hc.mono ?_
  rintro e w1 ⟨rfl, rfl⟩
  go_wp2
  go_ret
  exact ⟨rfl, rfl⟩
theorem rtwice_empty (hM : M f t = []) : Calls Try.prog 32 #[.pointer (some ⟨qr, 0, none⟩), .int .i64 f, .int .i64 t] w fun e w' => e = .returned (.int .i64 141) ∧ w = w' := by
  obtain ⟨bk, off, cp, c0, _, _, hn⟩ := h.par_cell
  obtain ⟨A, c, cr, _, _⟩ := h.rows f t (by omega) (by omega)
  rw [hM, List.length_nil] at cr
  have e1 : (f : Int) < 16 := by omega
  have e2 : (t : Int) < 16 := by omega
  have hlk := rlink_near w base qr n p M h f t hf ht
  rw [hl] at hlk
  clear hl h hM
  go_enter Try.func32, Try.ntmps32
  go_wp2_with fail
  refine hlk.mono ?_
  rintro e w1 ⟨rfl, rfl⟩
  go_wp2
  go_ret
  exact ⟨rfl, rfl⟩
theorem rdrop_first (l0 : List UInt8) (ls : List (List UInt8)) (hM : M f t = l0 :: ls) (h8 : ls.length < 8) :
    Calls Try.prog 31 #[.pointer (some ⟨qr, 0, none⟩), .int .i64 f, .int .i64 t] w fun e w' => e = .returned (.int .i64 0) ∧ RefAt w' base qr n p (upd M f t ls) ∧ w.grownBy w' (some qr) := by
  have hc := rtake_first w base qr n p M h f t hf ht hl l0 ls hM h8
  clear hM hl
  go_enter Try.func31, Try.ntmps31
  go_wp2_with fail
  refine hc.mono ?_
  rintro e w1 ⟨A', c', rfl, _, r1, r2⟩
  go_wp2
  go_ret
  exact ⟨rfl, r1, r2⟩
theorem rturn_first (l0 : List UInt8) (ls : List (List UInt8)) (hM : M f t = l0 :: ls) (h8 : ls.length < 8) (hm0 : l0.length ≤ 1000000) :
    Calls Try.prog 33 #[.pointer (some ⟨qr, 0, none⟩), .int .i64 f, .int .i64 t] w fun e w' => e = .returned (.int .i64 0) ∧ RefAt w' base qr n p (upd M f t (ls ++ [l0])) ∧ w.grownBy w' (some qr) := by
  have hc := rtake_first w base qr n p M h f t hf ht hl l0 ls hM h8
  have HL := Lib.hid hl
  clear hM hl
  go_enter Try.func33, Try.ntmps33
  go_wp2_with fail
  refine hc.mono ?_
  rintro e w1 ⟨A', c', rfl, hy, r1, r2⟩
  have hs := rsend_room w1 base qr n p _ r1 f t hf ht HL.out A' c' _ l0 rfl hy hm0 (by simpa [upd] using h8)
  have HS := Lib.hid hs
  clear hs hc
  go_wp2_with fail
  refine HS.out.mono ?_
  rintro e w2 ⟨rfl, r3, r4⟩
  go_wp2_with fail
  go_ret
  refine ⟨rfl, r3.congr (fun i j _ _ => ?_), grown_trans r2 r4⟩
  unfold upd
  by_cases e : i = f ∧ j = t
  · simp [e]
  · simp [e]
theorem rtwice_first (l0 : List UInt8) (ls : List (List UInt8)) (hM : M f t = l0 :: ls) (h8 : ls.length + 1 < 8) (hm0 : l0.length ≤ 1000000) :
    Calls Try.prog 32 #[.pointer (some ⟨qr, 0, none⟩), .int .i64 f, .int .i64 t] w fun e w' => e = .returned (.int .i64 0) ∧ RefAt w' base qr n p (upd M f t (M f t ++ [l0])) ∧ w.grownBy w' (some qr) := by
  obtain ⟨bk, off, cp, c0, _, _, hn⟩ := h.par_cell
  obtain ⟨A, c, cr, _, xs, hli, hxs, hel⟩ := h.rows f t (by omega) (by omega)
  obtain ⟨m, hm⟩ : ∃ m, m = ls.length := ⟨_, rfl⟩
  rw [hM] at cr hxs hel
  rw [List.length_cons, ← hm] at cr hxs
  obtain ⟨lb, lo, rfl, hlc⟩ : ∃ lb lo, A = some ⟨lb, lo, none⟩ ∧ ∀ j u, xs[j]? = some u → w.cell? ⟨lb, lo + j, none⟩ = some u := by
    rcases hli with e | ⟨lb, lo, e1, _, _, e4⟩
    · rw [e] at hxs
      simp at hxs
    · exact ⟨lb, lo, e1, e4⟩
  obtain ⟨A0, c0', hx0, hyb0⟩ := hel 0 xs[0] l0 (List.getElem?_eq_getElem (by omega)) rfl
  have c1 := hlc 0 _ (List.getElem?_eq_getElem (by omega))
  rw [hx0, Nat.add_zero] at c1
  have hs := rsend_room w base qr n p M h f t hf ht hl A0 c0' _ l0 rfl hyb0 hm0 (by rw [hM]; simpa using h8)
  have HS := Lib.hid hs
  have e1 : (f : Int) < 16 := by omega
  have e2 : (t : Int) < 16 := by omega
  have hlk := rlink_near w base qr n p M h f t hf ht
  rw [hl] at hlk
  have g0 : (((m + 1 : Nat) : Int) == 0) = false := by rw [beq_eq_false_iff_ne]; omega
  have g1 : (0 : Int) < (m : Int) + 1 := by omega
  clear hs hl hM hx0 hel hli
  go_enter Try.func32, Try.ntmps32
  go_wp2_with fail
  refine hlk.mono ?_
  rintro e w1 ⟨rfl, rfl⟩
  go_wp2_with fail
  refine HS.out.mono ?_
  rintro e w2 ⟨rfl, r3, r4⟩
  go_wp2_with fail
  go_ret
  exact ⟨rfl, r3, r4⟩
theorem rtwice_full (l0 : List UInt8) (ls : List (List UInt8)) (hM : M f t = l0 :: ls) (h8 : 8 ≤ ls.length + 1) :
    Calls Try.prog 32 #[.pointer (some ⟨qr, 0, none⟩), .int .i64 f, .int .i64 t] w fun e w' => e = .returned (.int .i64 141) ∧ w = w' := by
  obtain ⟨bk, off, cp, c0, _, _, hn⟩ := h.par_cell
  obtain ⟨A, c, cr, _, xs, hli, hxs, hel⟩ := h.rows f t (by omega) (by omega)
  obtain ⟨m, hm⟩ : ∃ m, m = ls.length := ⟨_, rfl⟩
  rw [hM] at cr hxs hel
  rw [List.length_cons, ← hm] at cr hxs
  obtain ⟨lb, lo, rfl, hlc⟩ : ∃ lb lo, A = some ⟨lb, lo, none⟩ ∧ ∀ j u, xs[j]? = some u → w.cell? ⟨lb, lo + j, none⟩ = some u := by
    rcases hli with e | ⟨lb, lo, e1, _, _, e4⟩
    · rw [e] at hxs
      simp at hxs
    · exact ⟨lb, lo, e1, e4⟩
  obtain ⟨A0, c0', hx0, hyb0⟩ := hel 0 xs[0] l0 (List.getElem?_eq_getElem (by omega)) rfl
  have c1 := hlc 0 _ (List.getElem?_eq_getElem (by omega))
  rw [hx0, Nat.add_zero] at c1
  have hs := rsend_full w base qr n p M h f t hf ht hl (.slice A0 l0.length c0') (by rw [hM]; simpa using h8)
  have HS := Lib.hid hs
  have e1 : (f : Int) < 16 := by omega
  have e2 : (t : Int) < 16 := by omega
  have hlk := rlink_near w base qr n p M h f t hf ht
  rw [hl] at hlk
  have g0 : (((m + 1 : Nat) : Int) == 0) = false := by rw [beq_eq_false_iff_ne]; omega
  have g1 : (0 : Int) < (m : Int) + 1 := by omega
  clear hs hl hM hx0 hel hli
  go_enter Try.func32, Try.ntmps32
  go_wp2_with fail
  refine hlk.mono ?_
  rintro e w1 ⟨rfl, rfl⟩
  go_wp2_with fail
  refine HS.out.mono ?_
  rintro e w2 ⟨rfl, rfl⟩
  go_wp2_with fail
  go_ret
  exact ⟨rfl, rfl⟩
end

/-- What the reference holds behind k rounds of Empty. -/
def emptiedTo (br : Int) (k : Nat) (M : Nat → Nat → List (List UInt8)) : Nat → Nat → List (List UInt8) := fun i j => if ((i : Int) = br ∧ j < k) ∨ ((j : Int) = br ∧ i < k) then [] else M i j
theorem rempty (w : World) (base qr n : Nat) (p : Nat → Nat) (M : Nat → Nat → List (List UInt8)) (h : RefAt w base qr n p M) (br : Int) :
    Calls Try.prog 34 #[.pointer (some ⟨qr, 0, none⟩), .int .i64 br] w fun e w' => e = .returned (.tuple #[]) ∧ RefAt w' base qr n p (fun i j => if (i : Int) = br ∨ (j : Int) = br then [] else M i j) ∧ w.grownBy w' (some qr) := by
  have h0 : RefAt w base qr n p (emptiedTo br 0 M) := h.congr (fun i j _ _ => by simp [emptiedTo])
  clear h
  go_enter Try.func34, Try.ntmps34
  go_wp2
  go_loopw [4] (fun i_ wr => ∃ k : Nat, i_ = .int .i64 k ∧ k ≤ 16 ∧ RefAt wr base qr n p (emptiedTo br k M) ∧ w.grownBy wr (some qr)) (fun i _ => 16 - (intOf i).toNat)
  case atStart => exact ⟨0, rfl, by omega, h0, World.grownBy.refl w _⟩
  case round =>
    obtain ⟨k, rfl, hk, h1, g1⟩ := hrel
    by_cases hlt : k < 16
    · have hlt' : (k : Int) < 16 := by omega
      by_cases hbr : 0 ≤ br ∧ br < 16
      · obtain ⟨b1, b2⟩ := hbr
        obtain ⟨q, rfl⟩ : ∃ q : Nat, br = q := ⟨br.toNat, by omega⟩
        have hq16 : q < 16 := by omega
        obtain ⟨cs, hb, hs⟩ := h1.blk
        have k1 := hb.cell (1 + q * 16 + k)
        rw [Array.getElem?_eq_getElem (by omega)] at k1
        have k1f := hb.free (1 + q * 16 + k)
        obtain ⟨r1, r2⟩ := h1.set (f := q) (t := k) hq16 hlt (A := none) (c := 0) (ls := []) (Nat.le_refl _) (TextsOff.nil _ _ _)
        obtain ⟨cs2, hb2, hs2⟩ := r1.blk
        have k2 := hb2.cell (1 + k * 16 + q)
        rw [Array.getElem?_eq_getElem (by omega)] at k2
        have k2f := hb2.free (1 + k * 16 + q)
        obtain ⟨r3, r4⟩ := r1.set (f := k) (t := q) hlt hq16 (A := none) (c := 0) (ls := []) (Nat.le_refl _) (TextsOff.nil _ _ _)
        simp only [List.length_nil] at r1 r2 r3 r4 k2 k2f
        have hM : Hid (RefAt _ base qr n p (emptiedTo q (k + 1) M)) := r3.congr (fun i j _ _ => by
          unfold upd emptiedTo
          by_cases e1 : i = k ∧ j = q
          · rw [if_pos e1, if_pos (.inr ⟨by omega, by omega⟩)]
          · rw [if_neg e1]
            by_cases e2 : i = q ∧ j = k
            · rw [if_pos e2, if_pos (.inl ⟨by omega, by omega⟩)]
            · rw [if_neg e2]
              have : (((i : Int) = (q : Int) ∧ j < k) ∨ ((j : Int) = (q : Int) ∧ i < k)) ↔ (((i : Int) = (q : Int) ∧ j < k + 1) ∨ ((j : Int) = (q : Int) ∧ i < k + 1)) := by omega
              simp only [this])
        have G := grown_trans g1 (grown_trans r2 r4)
        clear r1 r2 r3 r4 hb hb2 h0 h1
        go_wp2
        go_roundw
        case rel => exact ⟨k + 1, by go_num, by omega, hM.out, G⟩
        case measure => simp [intOf]; omega
      · have hM : Hid (RefAt wr base qr n p (emptiedTo br (k + 1) M)) := h1.congr (fun i j hi hj => by
          unfold emptiedTo
          rw [if_neg (by omega), if_neg (by omega)])
        rcases (show br < 0 ∨ (0 ≤ br ∧ 16 ≤ br) by omega) with b1 | ⟨b1, b2⟩
        all_goals
          clear hbr h0 h1
          go_wp2
          go_roundw
          case rel => exact ⟨k + 1, by go_num, by omega, hM.out, g1⟩
          case measure => simp [intOf]; omega
    · obtain rfl : k = 16 := by omega
      have hM : Hid (RefAt wr base qr n p (fun i j => if (i : Int) = br ∨ (j : Int) = br then [] else M i j)) := h1.congr (fun i j hi hj => by
        unfold emptiedTo
        have : (((i : Int) = br ∧ j < 16) ∨ ((j : Int) = br ∧ i < 16)) ↔ ((i : Int) = br ∨ (j : Int) = br) := by omega
        simp only [this])
      clear h0 h1
      go_wp2
      go_end0
      exact ⟨rfl, hM.out, g1⟩
end Go.Proofs.Ytbniaojldjhemaa
