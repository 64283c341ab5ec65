/- The walk of the document's Crash. -/
import Derived.Test.YtjbdnogonfnjkaaRef
import Derived.Deep.DrawnRows
namespace Go.Proofs.Ytjbdnogonfnjkaa
open Go.RowKit
attribute [local go_sem ↓] Go.wp_at_zero Go.wp_at_succ

set_option maxHeartbeats 1000000 in
theorem ref_crash (q base last room : Nat) (r : Option Nat) (l : List UInt8) (keep : Int) (w : World) (hd : Ref w q base r l last room) (hB : base ≤ w.heap.size) (hk : -9223372036854775808 ≤ keep ∧ keep ≤ 9223372036854775807) :
    Calls Try.prog 26 #[.pointer (some ⟨q, 0, none⟩), .int .i64 keep] w fun e w' => e = .returned (.tuple #[]) ∧ ∃ r', Ref w' q base r' (l.take (last + min keep.toNat (l.length - last))) (last + min keep.toNat (l.length - last)) room ∧ Moves w w' q r ∧ Later w r r' := by
  obtain ⟨i0, hi0, hz0, hz1, hz2⟩ := info_parts Try.info5
  obtain ⟨Ah, ch, rfl, hb, ho, hq, h1, h2, h3⟩ := hd
  have c0 := hb.cell 0
  have c1 := hb.cell 1
  have c3 := fun k => (Blk.alloc (w := w.drewN k) hb (.cells #[] 5)).cell 0
  have c4 := fun k => (Blk.alloc (w := w.drewN k) hb (.cells #[] 5)).cell 1
  simp only [show (#[Value.slice Ah l.length ch, .int .i64 last, .int .i64 room] : Array Value)[0]? = some (.slice Ah l.length ch) from rfl, show (#[Value.slice Ah l.length ch, .int .i64 last, .int .i64 room] : Array Value)[1]? = some (.int .i64 last) from rfl] at c0 c1 c3 c4
  have hcap := own_cap ho
  obtain ⟨n, hn⟩ : ∃ n, n = last + min keep.toNat (l.length - last) := ⟨_, rfl⟩
  rw [← hn]
  have hml : n ≤ l.length := by omega
  have hmc : n ≤ ch := by omega
  have hmc' : (n : Int) ≤ (ch : Int) := by omega
  have hlen : (l.take n).length = n := by rw [List.length_take]; omega
  have hH := Lib.hid hlen
  have hcut : Bytes w w.heap.size Ah (l.take n) := by have := Lies.of_own (own_cut ho hml); rwa [show (bytesV l).take n = bytesV (l.take n) by simp [bytesV, List.map_take]] at this
  clear hlen
  have hs1 : IntKind.i64.wrap ((l.length : Int) - (last : Int)) = (l.length : Int) - (last : Int) := IntWalk.i64_in _ (by omega)
  have hs2 : IntKind.i64.wrap (n : Int) = (n : Int) := IntWalk.i64_in _ (by omega)
  have fin : ∀ (w2 : World) (A1 : Option Addr) (c1 : Nat), w2.ownsRow w.heap.size 5 1 (.slice A1 (0 + n) c1) (0 + n) ([] ++ bytesV (l.take n)) → Below w.heap.size w w2 → ∀ v, Blk w2 q 39 #[.slice Ah l.length ch, v, .int .i64 room] →
      ∃ r', Ref ((w2.setCell ⟨q, 0, none⟩ (.slice A1 n c1)).setCell ⟨q, 1, none⟩ (.int .i64 n)) q base r' (l.take n) n room ∧ Moves w ((w2.setCell ⟨q, 0, none⟩ (.slice A1 n c1)).setCell ⟨q, 1, none⟩ (.int .i64 n)) q (Value.slice Ah l.length ch).ownBlock ∧ Later w (Value.slice Ah l.length ch).ownBlock r' := by
    intro w2 A1 c1 ho2 hb2 v hbq
    rw [Nat.zero_add, List.nil_append] at ho2
    exact Ref.of_copy hH.out hb2 hB hq (by omega) h3 hbq ho2 _
  have FIN := Lib.hid fin
  clear fin
  rcases (show (keep ≤ 0 ∧ n = last) ∨ (0 < keep ∧ keep ≤ (l.length : Int) - last ∧ (n : Int) = last + keep) ∨ (0 < keep ∧ (l.length : Int) - last < keep ∧ n = l.length) by omega) with ⟨k1, hn'⟩ | ⟨k1, k2, hn'⟩ | ⟨k1, k2, hn'⟩
  · clear hn
    have hs3 : IntKind.i64.wrap (last : Int) = (n : Int) := by rw [← hn']; exact hs2
    have H := Lib.hid hn'
    clear hn'
    go_enter Try.func26, Try.ntmps26
    go_wp2_with fail
    go_quiet (fail)
    go_wp2_with fail
    have hown := fun k => World.ownsRow_made (e := 5) (size := 1) (w.drewN k) #[] 0 (Nat.le_refl _) (Nat.zero_le _) rfl
    have hcut' := fun k => (hcut.drewN k).alloc (Nat.le_refl _) (.cells #[] 5)
    go_region_law ((refine step_append_from _ rfl (.tmp 31) (.tmp 42) 23 rfl w.heap.size 5 i0 _ 1 Try.underlying23 hi0 hz0 hz1 hz2 rfl (.slice (some ⟨w.heap.size, 0, none⟩) 0 0) 0 [] (by rfl) (by exact hown _) w.heap.size Ah n ch (bytesV (l.take n)) (by rfl) (by rw [bytesV_length]; exact hH.out) (by exact hcut' _) (bytesV_one _) (by unfold maxLen; omega) (by omega) (by simp) ?_; intro A1 c1 w1 hown1 hgrow1 hat1; have hb1 := ((below_draws (Below.refl w.heap.size w)).alloc (Nat.le_refl _) (.cells #[] 5)).trans (below_append (hown _) hgrow1 (Nat.le_refl _) (by simp)); have hbq := Blk.below (w := w) hb hb1 hb.lt; have d0 := hbq.cell 0; have f0 := hbq.free 0; have d1 := hbq.cell 1; have f1 := hbq.free 1; simp at d0 d1))
    all_goals (go_wp2_with fail; go_end0; exact ⟨rfl, FIN.out w1 A1 c1 hown1 hb1 _ hbq⟩)
  · clear hn
    have hs3 : IntKind.i64.wrap ((last : Int) + keep) = (n : Int) := by rw [← hn']; exact hs2
    have H := Lib.hid hn'
    clear hn'
    go_enter Try.func26, Try.ntmps26
    go_wp2_with fail
    go_quiet (fail)
    go_wp2_with fail
    have hown := fun k => World.ownsRow_made (e := 5) (size := 1) (w.drewN k) #[] 0 (Nat.le_refl _) (Nat.zero_le _) rfl
    have hcut' := fun k => (hcut.drewN k).alloc (Nat.le_refl _) (.cells #[] 5)
    go_region_law ((refine step_append_from _ rfl (.tmp 31) (.tmp 42) 23 rfl w.heap.size 5 i0 _ 1 Try.underlying23 hi0 hz0 hz1 hz2 rfl (.slice (some ⟨w.heap.size, 0, none⟩) 0 0) 0 [] (by rfl) (by exact hown _) w.heap.size Ah n ch (bytesV (l.take n)) (by rfl) (by rw [bytesV_length]; exact hH.out) (by exact hcut' _) (bytesV_one _) (by unfold maxLen; omega) (by omega) (by simp) ?_; intro A1 c1 w1 hown1 hgrow1 hat1; have hb1 := ((below_draws (Below.refl w.heap.size w)).alloc (Nat.le_refl _) (.cells #[] 5)).trans (below_append (hown _) hgrow1 (Nat.le_refl _) (by simp)); have hbq := Blk.below (w := w) hb hb1 hb.lt; have d0 := hbq.cell 0; have f0 := hbq.free 0; have d1 := hbq.cell 1; have f1 := hbq.free 1; simp at d0 d1))
    all_goals (go_wp2_with fail; go_end0; exact ⟨rfl, FIN.out w1 A1 c1 hown1 hb1 _ hbq⟩)
  · clear hn
    have hs3 : IntKind.i64.wrap ((last : Int) + ((l.length : Int) - (last : Int))) = (n : Int) := by rw [show (last : Int) + ((l.length : Int) - (last : Int)) = (n : Int) by omega]; exact hs2
    have H := Lib.hid hn'
    clear hn'
    go_enter Try.func26, Try.ntmps26
    go_wp2_with fail
    go_quiet (fail)
    go_wp2_with fail
    go_quiet (fail)
    go_wp2_with fail
    have hown := fun k => World.ownsRow_made (e := 5) (size := 1) (w.drewN k) #[] 0 (Nat.le_refl _) (Nat.zero_le _) rfl
    have hcut' := fun k => (hcut.drewN k).alloc (Nat.le_refl _) (.cells #[] 5)
    go_region_law ((refine step_append_from _ rfl (.tmp 31) (.tmp 42) 23 rfl w.heap.size 5 i0 _ 1 Try.underlying23 hi0 hz0 hz1 hz2 rfl (.slice (some ⟨w.heap.size, 0, none⟩) 0 0) 0 [] (by rfl) (by exact hown _) w.heap.size Ah n ch (bytesV (l.take n)) (by rfl) (by rw [bytesV_length]; exact hH.out) (by exact hcut' _) (bytesV_one _) (by unfold maxLen; omega) (by omega) (by simp) ?_; intro A1 c1 w1 hown1 hgrow1 hat1; have hb1 := ((below_draws (Below.refl w.heap.size w)).alloc (Nat.le_refl _) (.cells #[] 5)).trans (below_append (hown _) hgrow1 (Nat.le_refl _) (by simp)); have hbq := Blk.below (w := w) hb hb1 hb.lt; have d0 := hbq.cell 0; have f0 := hbq.free 0; have d1 := hbq.cell 1; have f1 := hbq.free 1; simp at d0 d1))
    all_goals (go_wp2_with fail; go_end0; exact ⟨rfl, FIN.out w1 A1 c1 hown1 hb1 _ hbq⟩)
end Go.Proofs.Ytjbdnogonfnjkaa
