/- The calls at the head of all statements of layer 9. -/
import Derived.Test.YtjbdnogonfnjkaaDisk
import Derived.Lib.SlBytesConst
namespace Go.Proofs.Ytjbdnogonfnjkaa
open Go.RowKit

/-- A constant's bytes in a new block. -/
theorem const_bytes (w : World) (l : List UInt8) (cs : Array Value) (h : cs.toList = bytesV l) (lo hi : Nat) : Bytes (w.alloc (.cells cs 5 (lo, hi))) (w.heap.size + 1) (some ⟨w.heap.size, 0, none⟩) l := by
  refine .inr ⟨_, _, rfl, by omega, fun j u hj => ?_⟩
  rw [World.cell?_alloc_mark, Nat.zero_add, ← Array.getElem?_toList, h]
  exact hj
theorem new_disk (room : Nat) (w : World) (h : room ≤ 1048576) :
    Calls Try.prog 11 #[.int .i64 room] w fun e w' => e = .returned (.tuple #[.pointer (some ⟨w.heap.size, 0, none⟩), .int .i64 0]) ∧ Disk w' w.heap.size w.heap.size none [] 0 room ∧ Below w.heap.size w w' := by
  refine (new_any room w h).mono ?_
  rintro e w' ⟨rfl, rfl⟩
  exact ⟨rfl, Disk.made w w.heap.size room (Nat.le_refl _) h, (Below.refl _ _).alloc (Nat.le_refl _) _⟩
/-- A disk stays while blocks above are made, and while other rows are written. -/
theorem Disk.below {w w' : World} {q base last room : Nat} {r : Option Nat} {l : List UInt8} (h : Disk w q base r l last room) (hb : Below w.heap.size w w') : Disk w' q base r l last room := by
  obtain ⟨A, c, hr, hblk, ho, rest⟩ := h
  exact ⟨A, c, hr, hblk.below hb hblk.lt, own_below ho hb, rest⟩
theorem Disk.row {w : World} {q base last room : Nat} {r : Option Nat} {l : List UInt8} (h : Disk w q base r l last room) : ∀ k, r = some k → base ≤ k ∧ k < w.heap.size := by
  obtain ⟨A, c, hr, hblk, ho, rest⟩ := h
  intro k hk
  exact ho.lt k (by rw [← hr]; exact hk)
/-- What a call does to a disk leaves what lies below its base. -/
theorem Disk.far {w w' : World} {q base last room : Nat} {r : Option Nat} {l : List UInt8} (h : Disk w q base r l last room) (hm : Moves w w' q r) (hs : base ≤ w.heap.size) : Below base w w' := by
  obtain ⟨A, c, hr, hblk, ho, hq, rest⟩ := h
  exact hm.below hs hq (fun k hk => (ho.lt k (by rw [← hr]; exact hk)).1)

/-- Append of bytes that lie in a block just made. -/
theorem append_const (w0 w : World) (q last room : Nat) (r : Option Nat) (l b : List UInt8) (n : Nat) (cs : Array Value) (m : Nat × Nat) (hn : n = b.length) (hcs : cs.toList = bytesV b) (hd : Disk w q w0.heap.size r l last room) (hb0 : Below w0.heap.size w0 w) (h : l.length + b.length ≤ room) :
    Calls Try.prog 12 #[.pointer (some ⟨q, 0, none⟩), .slice (some ⟨w.heap.size, 0, none⟩) n n] (w.alloc (.cells cs 5 m)) fun e w' => e = .returned (.int .i64 0) ∧ ∃ r', Disk w' q w0.heap.size r' (l ++ b) last room ∧ Below w0.heap.size w0 w' := by
  subst hn
  have h1 := hd.below ((Below.refl w.heap.size w).alloc (Nat.le_refl _) (.cells cs 5 m))
  have h2 := hb0.alloc hb0.size (.cells cs 5 m)
  refine (append_ok _ _ _ _ _ _ _ l b _ _ h1 h2.size (const_bytes w b cs hcs m.1 m.2) h).mono ?_
  rintro e w4 ⟨rfl, r4, hd4, hm4, hl4⟩
  exact ⟨rfl, r4, hd4, h2.trans (h1.far hm4 h2.size)⟩
theorem full_far (w0 w : World) (q last room : Nat) (r : Option Nat) (l : List UInt8) (n c : Nat) (cs : Array Value) (m : Nat × Nat) (hd : Disk w q w0.heap.size r l last room) (hb0 : Below w0.heap.size w0 w) (hm : n ≤ 9223372036854775807) (h : room < l.length + n) :
    Calls Try.prog 12 #[.pointer (some ⟨q, 0, none⟩), .slice (some ⟨w.heap.size, 0, none⟩) n c] (w.alloc (.cells cs 5 m)) fun e w' => e = .returned (.int .i64 90) ∧ Disk w' q w0.heap.size r l last room ∧ Below w0.heap.size w0 w' := by
  have h1 := hd.below ((Below.refl w.heap.size w).alloc (Nat.le_refl _) (.cells cs 5 m))
  have h2 := hb0.alloc hb0.size (.cells cs 5 m)
  refine (append_full _ _ _ _ _ _ _ l n _ h1 hm h).mono ?_
  rintro e w4 ⟨rfl, k, rfl⟩
  exact ⟨rfl, h1, below_draws h2⟩
theorem sync_far (w0 w : World) (q last room : Nat) (r : Option Nat) (l : List UInt8) (hd : Disk w q w0.heap.size r l last room) (hb0 : Below w0.heap.size w0 w) :
    Calls Try.prog 17 #[.pointer (some ⟨q, 0, none⟩)] w fun e w' => e = .returned (.int .i64 0) ∧ Disk w' q w0.heap.size r l l.length room ∧ Below w0.heap.size w0 w' := by
  refine (sync_any _ _ _ _ _ _ w hd).mono ?_
  rintro e w3 ⟨rfl, hd3, hm3⟩
  exact ⟨rfl, hd3, hb0.trans (hd.far hm3 hb0.size)⟩
theorem crash_far (w0 w : World) (q last room : Nat) (r : Option Nat) (l : List UInt8) (keep : Int) (hd : Disk w q w0.heap.size r l last room) (hk : -9223372036854775808 ≤ keep ∧ keep ≤ 9223372036854775807) (hb0 : Below w0.heap.size w0 w) :
    Calls Try.prog 20 #[.pointer (some ⟨q, 0, none⟩), .int .i64 keep] w fun e w' => e = .returned (.tuple #[]) ∧ Disk w' q w0.heap.size r (l.take (last + min keep.toNat (l.length - last))) (last + min keep.toNat (l.length - last)) room ∧ Below w0.heap.size w0 w' := by
  refine (crash_any _ _ _ _ _ _ keep w hd hk).mono ?_
  rintro e w3 ⟨rfl, hd3, hm3⟩
  exact ⟨rfl, hd3, hb0.trans (hd.far hm3 hb0.size)⟩

set_option maxRecDepth 100000 in
set_option maxHeartbeats 2000000 in
theorem awake_any (w : World) : Calls Try.prog 10 #[] w fun e w' => e = .returned (.bool true) ∧ Below w.heap.size w w' := by
  have kc := fun (w : World) (C : Array Value) (n c : Nat) => Lib.run_convert_bytes_const (P := Try.prog) w 23 5 C n c Try.underlying23 Try.underlying5
  go_enter Try.func10, Try.ntmps10
  go_wp2_with fail
  refine (new_disk 10 w (by omega)).mono ?_
  rintro e w1 ⟨rfl, hd1, hb1⟩
  go_wp2_with fail
  refine (append_const w w1 _ _ _ _ [] [97, 98] _ _ _ rfl rfl hd1 hb1 (by decide)).mono ?_
  rintro e w2 ⟨rfl, r2, hd2, hb2⟩
  simp only [List.nil_append] at hd2
  go_wp2_with fail
  refine (sync_far w w2 _ _ _ _ _ hd2 hb2).mono ?_
  rintro e w3 ⟨rfl, hd3, hb3⟩
  go_wp2_with fail
  refine (append_const w w3 _ _ _ _ [97, 98] [99, 100, 101] _ _ _ rfl rfl hd3 hb3 (by decide)).mono ?_
  rintro e w4 ⟨rfl, r4, hd4, hb4⟩
  simp only [List.cons_append, List.nil_append, List.length_cons, List.length_nil, Nat.zero_add, Nat.reduceAdd] at hd4
  go_wp2_with fail
  refine (full_far w w4 _ _ _ _ _ 6 _ _ _ hd4 hb4 (by omega) (by decide)).mono ?_
  rintro e w5 ⟨rfl, hd5, hb5⟩
  go_wp2_with fail
  refine (crash_far w w5 _ _ _ _ _ 1 hd5 (by omega) hb5).mono ?_
  rintro e w6 ⟨rfl, hd6, hb6⟩
  have hd7 : Disk w6 w.heap.size w.heap.size r4 [97, 98, 99] 3 10 := hd6
  go_wp2_with fail
  refine (read_any _ _ _ _ _ _ w6 hd7).mono ?_
  rintro e w7 ⟨A7, c7, rfl, ho7, hb7⟩
  have hd8 := hd7.below hb7
  have hrt := run_text (P := Try.prog) w7 23 9 5 (Lies.of_own ho7) Try.underlying23 Try.underlying5 Try.underlying9 3 c7 rfl
  go_wp2_with fail
  refine (lasting_any _ _ _ _ _ _ w7 hd8).mono ?_
  rintro e w8 ⟨rfl, rfl⟩
  go_wp2_with fail
  refine (cut_bad _ _ _ _ _ _ 9 w7 hd8 (.inr (by decide))).mono ?_
  rintro e w8 ⟨rfl, rfl⟩
  go_wp2_with fail
  go_ret
  exact ⟨rfl, hb6.trans (hb7.mono hb6.size)⟩
end Go.Proofs.Ytjbdnogonfnjkaa
