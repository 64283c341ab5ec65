/- The walks of both Wraps: a frame in a row of the call's own, or the error. -/
import Derived.Test.YtckjjionidaecaaWraps
namespace Go.Proofs.Ytckjjionidaecaa
open Go.RowKit

theorem wrap_none (A : Option Addr) (c n : Nat) (w : World) (h : n = 0) :
    Calls Try.prog 10 #[.slice A n c] w fun e w' => e = .returned (.tuple #[.slice none 0 0, .int .i64 30]) ∧ w = w' := by
  subst h
  go_enter Try.func10, Try.ntmps10
  go_wp2
  go_ret2
  exact ⟨rfl, rfl⟩
theorem wrap_great (A : Option Addr) (c n : Nat) (w : World) (h : 4000 < n) (hm : n ≤ 9223372036854775807) :
    Calls Try.prog 10 #[.slice A n c] w fun e w' => e = .returned (.tuple #[.slice none 0 0, .int .i64 30]) ∧ w = w' := by
  have h0 : ((n : Int) == 0) = false := by rw [beq_eq_false_iff_ne]; omega
  go_enter Try.func10, Try.ntmps10
  go_wp2
  go_ret2
  exact ⟨rfl, rfl⟩

theorem wrap_any (A : Option Addr) (c : Nat) (l : List UInt8) (w : World) (h : Bytes w w.heap.size A l) (h0 : 0 < l.length) (h1 : l.length ≤ 4000) :
    Calls Try.prog 10 #[.slice A l.length c] w fun e w' => ∃ A' c', e = .returned (.tuple #[.slice A' (6 + l.length) c', .int .i64 0]) ∧ w'.ownsRow w.heap.size 5 1 (.slice A' (6 + l.length) c') (6 + l.length) (bytesV (Fr.wrap l)) ∧ Below w.heap.size w w' := by
  obtain ⟨i0, hi0, hz0, hz1, hz2⟩ := info_parts Try.info5
  have h0' : ((l.length : Int) == 0) = false := by rw [beq_eq_false_iff_ne]; omega
  have e32 : (l.length : Int) % 4294967296 = l.length := by omega
  go_enter Try.func10, Try.ntmps10
  go_wp2_with (at_make; refine wpList_make_own _ rfl _ _ 23 rfl w.heap.size 5 i0 _ 1 Try.underlying23 hi0 hz0 hz1 .i64 .i64 _ (6 + l.length) rfl rfl (by omega) (by rw [hz2]; omega) (by unfold maxLen; omega) (Nat.le_refl _) ?_; intro w1 hown1 hg1)
  have hs1 : w.heap.size ≤ w1.heap.size := hg1.size
  have hb1 : Below w.heap.size w w1 := (Below.refl _ _).grown hg1 (Nat.le_refl _) (by simp)
  have ho1 : Out (w1.alloc (.cells #[.slice (some ⟨w.heap.size, 0, none⟩) 0 (6 + l.length)] 23)) w1.heap.size w.heap.size [] := ⟨_, Blk.made w1 23 _, hown1.alloc _⟩
  refine (lay_any 2 w1.heap.size w.heap.size [] _ l.length (by omega) (by simp) hs1 ho1 (by simp; omega)).mono ?_
  rintro e w2 ⟨rfl, ho2, hb2⟩
  have hb2' : Below w.heap.size w w2 := (hb1.alloc hs1 _).trans hb2
  go_wp2_with (go_at_call 15; refine (sum_any A c w.heap.size l _ (h.below hb2') (by omega)).mono ?_; rintro e w' ⟨rfl, rfl⟩)
  refine (lay_any 4 w1.heap.size w.heap.size _ _ (Fr.sum l) (by omega) (by simp [rest]) hs1 ho2 hb2'.size).mono ?_
  rintro e w3 ⟨rfl, ⟨v3, hbv3, hown3⟩, hb3⟩
  have hb3' := hb2'.trans hb3
  simp only [List.nil_append, rest2, rest4] at hown3
  have hown4 : w3.ownsRow w.heap.size 5 1 v3 6 (bytesV (Fr.be2 l.length ++ Fr.be4 (Fr.sum l))) := hown3
  have c3 := hbv3.cell 0
  simp at c3
  clear hown3 ho1 ho2
  go_wp2_with (at_builtin; refine wpList_append_from _ rfl (.tmp 28) (.tmp 29) 23 rfl w.heap.size 5 i0 _ 1 Try.underlying23 hi0 hz0 hz1 hz2 rfl v3 6 _ rfl hown4 w.heap.size A l.length c (bytesV l) rfl (bytesV_length l) (h.below hb3') (bytesV_one l) (by unfold maxLen; omega) (by omega) hb3'.size ?_; intro A4 c4 w4 hown5 hg4 hat4)
  have hb4 := hb3'.trans (below_append hown4 hg4 (Nat.le_refl _) hb3'.size)
  rw [← bytesV_append] at hown5
  go_ret2
  exact ⟨_, _, rfl, hown5, hb4⟩

theorem refwrap_none (A : Option Addr) (c n : Nat) (w : World) (h : n = 0) :
    Calls Try.prog 11 #[.slice A n c] w fun e w' => e = .returned (.tuple #[.slice none 0 0, .int .i64 30]) ∧ w = w' := by
  subst h
  go_enter Try.func11, Try.ntmps11
  go_wp2
  go_ret2
  exact ⟨rfl, rfl⟩
theorem refwrap_great (A : Option Addr) (c n : Nat) (w : World) (h : 4000 < n) (hm : n ≤ 9223372036854775807) :
    Calls Try.prog 11 #[.slice A n c] w fun e w' => e = .returned (.tuple #[.slice none 0 0, .int .i64 30]) ∧ w = w' := by
  have h0 : ((n : Int) == 0) = false := by rw [beq_eq_false_iff_ne]; omega
  go_enter Try.func11, Try.ntmps11
  go_wp2
  go_ret2
  exact ⟨rfl, rfl⟩

theorem head_cells (n s : Nat) (hn : n ≤ 4000) : [Value.int .u8 ((n : Int) / 256), .int .u8 ((n : Int) % 256), .int .u8 ((s : Int) / 16777216 % 256), .int .u8 ((s : Int) / 65536 % 256), .int .u8 ((s : Int) / 256 % 256), .int .u8 ((s : Int) % 256)] = bytesV (Fr.be2 n ++ Fr.be4 s) := by
  have e (x y : Int) (h : x = y) : Value.int .u8 x = .int .u8 y := by rw [h]
  simp only [bytesV, Fr.be2, Fr.be4, List.cons_append, List.nil_append, List.map_cons, List.map_nil, UInt8.toNat_ofNat', List.cons.injEq, and_true]
  refine ⟨e _ _ ?_, e _ _ ?_, e _ _ ?_, e _ _ ?_, e _ _ ?_, e _ _ ?_⟩ <;> omega
theorem own_built (w : World) (cs : Array Value) (l : List UInt8) (n : Nat) (hcs : cs.toList = bytesV l) (hn : cs.size = n) (hm : n ≤ maxLen) :
    (w.alloc (.cells cs 5)).ownsRow w.heap.size 5 1 (.slice (some ⟨w.heap.size, 0, none⟩) n n) n (bytesV l) :=
  ⟨by rw [← hcs]; simp [hn], .inr ⟨w.heap.size, n, cs, rfl, Nat.le_refl _, heap_alloc_new w _, Nat.le_refl _, hm, by simp [hn], by rw [hcs, List.take_of_length_le]; rw [← hcs]; simp [hn]⟩⟩

theorem refwrap_any (A : Option Addr) (c : Nat) (l : List UInt8) (w : World) (h : Bytes w w.heap.size A l) (h0 : 0 < l.length) (h1 : l.length ≤ 4000) :
    Calls Try.prog 11 #[.slice A l.length c] w fun e w' => ∃ A' c', e = .returned (.tuple #[.slice A' (6 + l.length) c', .int .i64 0]) ∧ w'.ownsRow w.heap.size 5 1 (.slice A' (6 + l.length) c') (6 + l.length) (bytesV (Fr.wrap l)) ∧ Below w.heap.size w w' := by
  obtain ⟨i0, hi0, hz0, hz1, hz2⟩ := info_parts Try.info5
  have h0' : ((l.length : Int) == 0) = false := by rw [beq_eq_false_iff_ne]; omega
  have hown := own_built w _ _ 6 (head_cells l.length (Fr.sum l) h1) rfl (by unfold maxLen; omega)
  go_enter Try.func11, Try.ntmps11
  go_wp2_with (first | (go_at_call 16; refine (refsum_any A c w.heap.size l _ h (by omega)).mono ?_; rintro e w' ⟨rfl, rfl⟩) | (at_builtin; refine wpList_append_from _ rfl (.tmp 35) (.tmp 36) 23 rfl w.heap.size 5 i0 _ 1 Try.underlying23 hi0 hz0 hz1 hz2 rfl _ 6 _ rfl hown w.heap.size A l.length c (bytesV l) rfl (bytesV_length l) (h.alloc (Nat.le_refl _) _) (bytesV_one l) (by unfold maxLen; omega) (by omega) (by simp) ?_; intro A4 c4 w4 hown5 hg4 hat4))
  have hb4 := ((Below.refl w.heap.size w).alloc (Nat.le_refl _) _).trans (below_append hown hg4 (Nat.le_refl _) (by simp))
  rw [← bytesV_append] at hown5
  go_ret2
  exact ⟨_, _, rfl, hown5, hb4⟩
end Go.Proofs.Ytckjjionidaecaa
