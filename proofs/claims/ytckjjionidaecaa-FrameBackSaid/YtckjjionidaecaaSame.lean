/- The walk of the reference's comparison of two lists of texts, and that of the calls at the head of all statements. -/
import Derived.Test.YtckjjionidaecaaScan2
import Derived.Lib.SlBytesConst
namespace Go.Proofs.Ytckjjionidaecaa
open Go.RowKit

/-- The slice from A on reads as a list of texts. -/
def Texts (w : World) (B : Nat) (A : Option Addr) (ls : List (List UInt8)) : Prop :=
  ∃ xs, Lies w B A xs ∧ xs.length = ls.length ∧ ∀ (i : Nat) (u : Value) (p : List UInt8), xs[i]? = some u → ls[i]? = some p → ∃ A' c', u = .slice A' p.length c' ∧ Bytes w B A' p

section
variable {w w' : World} {B B' : Nat} {A : Option Addr} {ls : List (List UInt8)}
theorem Texts.below (h : Texts w B A ls) (hb : Below B w w') : Texts w' B A ls := by
  obtain ⟨xs, h1, h2, h3⟩ := h
  exact ⟨xs, h1.below hb, h2, fun i u p hu hp => by
    obtain ⟨A', c', e, hy⟩ := h3 i u p hu hp
    exact ⟨A', c', e, hy.below hb⟩⟩
theorem Texts.more (h : Texts w B A ls) (hB : B ≤ B') : Texts w B' A ls := by
  obtain ⟨xs, h1, h2, h3⟩ := h
  exact ⟨xs, h1.more hB, h2, fun i u p hu hp => by
    obtain ⟨A', c', e, hy⟩ := h3 i u p hu hp
    exact ⟨A', c', e, hy.more hB⟩⟩
theorem Texts.drewN (h : Texts w B A ls) (n : Nat) : Texts (w.drewN n) B A ls := h
theorem Texts.drew (h : Texts w B A ls) : Texts w.drew B A ls := h
theorem Texts.nil (w : World) (B : Nat) (A : Option Addr) : Texts w B A [] := ⟨[], .inl rfl, rfl, fun i u p h => by simp at h⟩
theorem Texts.take (h : Texts w B A ls) (k : Nat) : Texts w B A (ls.take k) := by
  obtain ⟨xs, h1, h2, h3⟩ := h
  refine ⟨xs.take k, ?_, by simp [h2], fun i u p hu hp => ?_⟩
  · rcases h1 with rfl | ⟨b, off, hA, hb, hc⟩
    · left; simp
    · exact .inr ⟨b, off, hA, hb, fun j u hu => by
        rw [List.getElem?_take] at hu
        split at hu
        · exact hc j u hu
        · cases hu⟩
  · rw [List.getElem?_take] at hu hp
    split at hu
    · rename_i hi
      rw [if_pos hi] at hp
      exact h3 i u p hu hp
    · cases hu
theorem Texts.at_ (h : Texts w B A ls) {k : Nat} (hk : k < ls.length) :
    ∃ b off A' c', A = some ⟨b, off, none⟩ ∧ b < B ∧ w.cell? ⟨b, off + k, none⟩ = some (.slice A' ls[k].length c') ∧ Bytes w B A' ls[k] := by
  obtain ⟨xs, h1, h2, h3⟩ := h
  obtain ⟨b, off, hA, hb, hc⟩ := h1.open_ (by omega)
  obtain ⟨A', c', e, hy⟩ := h3 k xs[k] ls[k] (List.getElem?_eq_getElem (by omega)) (List.getElem?_eq_getElem hk)
  exact ⟨b, off, A', c', hA, hb, (hc k _ (List.getElem?_eq_getElem (by omega))).trans (by rw [e]), hy⟩
theorem Got.texts {base : Nat} {v : Value} (h : Got w base v ls) : ∃ A c, v = .slice A ls.length c ∧ Texts w w.heap.size A ls := by
  obtain ⟨A, c, xs, rfl, ho, hl, hx⟩ := h
  refine ⟨A, c, rfl, xs, Lies.of_own ho, hl, fun i u p hu hp => ?_⟩
  have hr := hx i u p hu hp
  obtain ⟨A', c', rfl⟩ := own_form hr
  exact ⟨A', c', rfl, Lies.of_own hr⟩
end

theorem take_same {a b : List (List UInt8)} {k : Nat} (ha : k < a.length) (hb : k < b.length) (h : a.take k = b.take k) (he : a[k] = b[k]) : a.take (k + 1) = b.take (k + 1) := by
  rw [List.take_succ_eq_append_getElem ha, List.take_succ_eq_append_getElem hb, h, he]

theorem same_at {a b : List UInt8} (h : (!a == b) = false) : a = b := by simpa using h
theorem not_same {a b : List (List UInt8)} {k : Nat} (ha : k < a.length) (hb : k < b.length) (h : (!a[k] == b[k]) = true) : (a == b) = false := by
  rw [beq_eq_false_iff_ne]
  intro e
  subst e
  simp at h

set_option maxHeartbeats 1000000 in
theorem same_any (A1 A2 : Option Addr) (c1 c2 B : Nat) (l1 l2 : List (List UInt8)) (w : World) (h1 : Texts w B A1 l1) (h2 : Texts w B A2 l2) (hm1 : l1.length ≤ 9223372036854775807) :
    Calls Try.prog 14 #[.slice A1 l1.length c1, .slice A2 l2.length c2] w fun e w' => e = .returned (.bool (l1 == l2)) ∧ ∃ n, w' = w.drewN n := by
  by_cases hl : l1.length = l2.length
  · have g0 : ((l1.length : Int) != (l2.length : Int)) = false := by rw [bne_eq_false_iff_eq]; omega
    have HL := Lib.hid hl
    clear hl
    go_enter Try.func14, Try.ntmps14
    go_wp2
    go_loopw [5] (fun i wr => ∃ k n : Nat, k ≤ l1.length ∧ i = .int .i64 k ∧ wr = w.drewN n ∧ l1.take k = l2.take k) (fun i _ => l1.length - (intOf i).toNat)
    case atStart => exact ⟨0, 0, Nat.zero_le _, rfl, rfl, rfl⟩
    case round =>
      obtain ⟨k, n, hk, rfl, rfl, hd⟩ := hrel
      have HD := Lib.hid hd
      clear hd
      by_cases hlt : k < l1.length
      · have hlt2 : k < l2.length := by rw [← HL.out]; exact hlt
        obtain ⟨b1, o1, a1, d1, rfl, hb1, hc1, hy1⟩ := h1.at_ hlt
        obtain ⟨b2, o2, a2, d2, rfl, hb2, hc2, hy2⟩ := h2.at_ hlt2
        have t1 := fun j => run_text (P := Try.prog) (w.drewN j) 23 9 5 (hy1.drewN j) Try.underlying23 Try.underlying5 Try.underlying9 l1[k].length d1 rfl
        have t2 := fun j => run_text (P := Try.prog) (w.drewN j) 23 9 5 (hy2.drewN j) Try.underlying23 Try.underlying5 Try.underlying9 l2[k].length d2 rfl
        have HT := Lib.hid (fun he => take_same hlt hlt2 HD.out he)
        go_wp2
        go_quiet (fail)
        go_wp2
        · have hne : (l1 == l2) = false := not_same hlt hlt2 (by assumption)
          go_ret
          exact ⟨by rw [hne]; rfl, n + nq, by rw [World.drewN_drewN]⟩
        · have he : l1[k] = l2[k] := same_at (by assumption)
          have HN := HT.out he
          go_roundw
          case rel => exact ⟨k + 1, _, by omega, by go_num, rfl, HN⟩
          case measure => simp [intOf]; omega
      · obtain rfl : k = l1.length := by omega
        have he : (l1 == l2) = true := by
          have := HD.out
          rw [List.take_length, HL.out, List.take_length] at this
          rw [this]
          exact beq_self_eq_true _
        go_wp2
        go_ret
        exact ⟨by rw [he]; rfl, _, rfl⟩
  · have hne : (l1 == l2) = false := by rw [beq_eq_false_iff_ne]; intro h; rw [h] at hl; exact hl rfl
    have g0 : ((l1.length : Int) != (l2.length : Int)) = true := by rw [bne_iff_ne]; omega
    clear hl
    go_enter Try.func14, Try.ntmps14
    go_wp2
    go_ret
    exact ⟨by rw [hne]; rfl, 0, rfl⟩

theorem Fr_awake2 : Fr.used (Fr.full (Fr.wrap [97] ++ Fr.wrap [97])) = 14 := by rw [Fr.awake_list]; rfl

theorem own_cap {w : World} {base e n c : Nat} {A : Option Addr} {xs : List Value} (h : w.ownsRow base e 1 (.slice A n c) n xs) : n ≤ c := by
  rcases h.2 with ⟨hv, rfl⟩ | ⟨g, cap, cur, hv, _, _, hnc, _⟩
  · exact Nat.zero_le _
  · injection hv with _ _ hc
    omega
theorem letter_a (w : World) : Bytes (w.alloc (.cells #[.int .u8 97] 5 (1, 2))) (w.heap.size + 1) (some ⟨w.heap.size, 0, none⟩) [97] := by
  refine .inr ⟨_, _, rfl, by omega, fun j u hj => ?_⟩
  match j, hj with
  | 0, hj =>
    rw [World.cell?_alloc_mark]
    simpa [bytesV] using hj
theorem wrap_a (w : World) (A : Option Addr) (c : Nat) (h : Bytes w w.heap.size A [97]) :
    Calls Try.prog 10 #[.slice A 1 c] w fun e w' => ∃ A' c', e = .returned (.tuple #[.slice A' 7 c', .int .i64 0]) ∧ w'.ownsRow w.heap.size 5 1 (.slice A' 7 c') 7 (bytesV (Fr.wrap [97])) ∧ Below w.heap.size w w' :=
  wrap_any A c [97] w h (by decide) (by decide)
theorem scan_a (w : World) (A : Option Addr) (c : Nat) (h : Bytes w w.heap.size A (Fr.wrap [97] ++ Fr.wrap [97])) (hc : 14 ≤ c) :
    Calls Try.prog 12 #[.slice A 14 c] w fun e w' => ∃ A' c', e = .returned (.tuple #[.slice A' 2 c', .int .i64 14]) ∧ Below w.heap.size w w' := by
  have h := scan_any A c _ w h hc (by decide)
  rw [Fr_awake2] at h
  refine h.mono ?_
  rintro e w' ⟨v, rfl, ⟨A', c', xs, hv, _⟩, hb⟩
  rw [Fr.awake_list] at hv
  exact ⟨A', c', by rw [hv]; rfl, hb⟩
theorem sum_a_any (w : World) (A : Option Addr) (c B : Nat) (h : Bytes w B A [97]) : Calls Try.prog 15 #[.slice A 1 c] w fun e w' => e = .returned (.int .u32 (Fr.sum [97])) ∧ w = w' :=
  sum_any A c B [97] w h (by decide)
theorem sum_nil_any (w : World) (c : Nat) : Calls Try.prog 15 #[.slice none 0 c] w fun e w' => e = .returned (.int .u32 0) ∧ w = w' :=
  sum_any none c 0 [] w (.inl rfl) (by decide)

set_option maxHeartbeats 4000000 in
theorem awake_any (w : World) : Calls Try.prog 9 #[] w fun e w' => e = .returned (.bool true) ∧ Below w.heap.size w w' := by
  obtain ⟨i0, hi0, hz0, hz1, hz2⟩ := info_parts Try.info5
  have kc := fun (w : World) (C : Array Value) (n c : Nat) => Lib.run_convert_bytes_const (P := Try.prog) w 23 5 C n c Try.underlying23 Try.underlying5
  have hb0 : Below w.heap.size w (w.alloc (.cells #[.int .u8 97] 5 (1, 2))) := (Below.refl _ _).alloc (Nat.le_refl _) _
  have hsa : ((Fr.sum [97] : Nat) : Int) != 0 := by
    rw [bne_iff_ne]
    have := Fr.sum_a
    omega
  go_enter Try.func9, Try.ntmps9
  go_wp2_with fail
  refine (wrap_a _ _ _ ((letter_a w).more (by simp))).mono ?_
  rintro e w1 ⟨A1, c1, rfl, hown1, hb1⟩
  have hb1' : Below w.heap.size w w1 := hb0.trans (hb1.mono (by simp))
  go_wp2_with fail
  refine (wrap_none _ _ _ _ rfl).mono ?_
  rintro e w2 ⟨rfl, rfl⟩
  have hy : Bytes w1 w1.heap.size A1 (Fr.wrap [97]) := Lies.of_own hown1
  have ho0 := World.ownsRow_made (e := 5) (size := 1) w1 #[] 0 (Nat.le_refl _) (Nat.zero_le _) rfl
  go_wp2_with (first
    | (at_builtin; refine wpList_append_from _ rfl (.tmp 18) (.tmp 19) 23 rfl w1.heap.size 5 i0 _ 1 Try.underlying23 hi0 hz0 hz1 hz2 rfl _ 0 [] rfl ho0 w1.heap.size A1 7 c1 (bytesV (Fr.wrap [97])) rfl rfl (hy.alloc (Nat.le_refl _) _) (bytesV_one _) (by unfold maxLen; omega) (by omega) (by simp) ?_; intro A3 c3 w3 hown3 hg3 hat3; have hb3 : Below w1.heap.size w1 w3 := ((Below.refl w1.heap.size w1).alloc (Nat.le_refl _) _).trans (below_append ho0 hg3 (Nat.le_refl _) (by simp)); have hy3 := hy.below hb3)
    | (at_builtin; refine wpList_append_from _ rfl (.tmp 20) (.tmp 21) 23 rfl w1.heap.size 5 i0 _ 1 Try.underlying23 hi0 hz0 hz1 hz2 rfl _ _ _ rfl hown3 w1.heap.size A1 7 c1 (bytesV (Fr.wrap [97])) rfl rfl hy3 (bytesV_one _) (by unfold maxLen; omega) (by omega) hb3.size ?_; intro A4 c4 w4 hown4 hg4 hat4; have hb4 : Below w1.heap.size w1 w4 := hb3.trans (below_append hown3 hg4 (Nat.le_refl _) hb3.size)))
  have hyy : Bytes w4 w4.heap.size A4 (Fr.wrap [97] ++ Fr.wrap [97]) := by
    unfold Bytes
    rw [bytesV_append]
    exact Lies.of_own hown4
  refine (scan_a w4 A4 c4 hyy (own_cap hown4)).mono ?_
  rintro e w5 ⟨A5, c5, rfl, hb5⟩
  have hb5' : Below w.heap.size w w5 := hb1'.trans ((hb4.mono hb1'.size).trans (hb5.mono (Nat.le_trans hb1'.size hb4.size)))
  go_wp2_with fail
  refine (sum_nil_any _ _).mono ?_
  rintro e w6 ⟨rfl, rfl⟩
  go_wp2_with fail
  refine (sum_a_any _ _ _ _ (letter_a w5)).mono ?_
  rintro e w6 ⟨rfl, rfl⟩
  go_wp2
  go_ret
  exact ⟨rfl, hb5'.alloc hb5'.size _⟩
end Go.Proofs.Ytckjjionidaecaa
