/- DiskCuts: for every two []byte and two ints the law returns true, and the bytes read behind the call as before. No conditions. -/
import Derived.Test.YtjbdnogonfnjkaaFar
namespace Go.Proofs.Ytjbdnogonfnjkaa.diskCuts
open Go.ChangeShapes Go.WideShapes Go.ChangeAt Go.RowKit

set_option maxRecDepth 100000 in
set_option maxHeartbeats 4000000 in
theorem walk_bad (A : Option Addr) (c : Nat) (l : List UInt8) (B : Option Addr) (d : Nat) (m : List UInt8) (n keep : Int) (w : World) (h : Bytes w w.heap.size A l) (_k : Bytes w w.heap.size B m) (hl : l.length ≤ 300) (hm : m.length ≤ 300) (hn : n < 0 ∨ (l.length : Int) < n) :
    Calls Try.prog 9 #[.slice A l.length c, .slice B m.length d, .int .i64 n, .int .i64 keep] w fun e w' => e = .returned (.bool true) ∧ Below w.heap.size w w' := by
  have g : (decide (n < 0) || decide ((l.length : Int) < n)) = true := by simpa using hn
  go_enter Try.func9, Try.ntmps9
  go_wp2_with fail
  refine (awake_any _).mono ?_
  rintro e w1 ⟨rfl, hb1⟩
  go_wp2_with fail
  refine (new_disk 1000 w1 (by omega)).mono ?_
  rintro e w2 ⟨rfl, hd2, hb2⟩
  have hbw2 := hb1.trans (hb2.mono hb1.size)
  have hy2 : Bytes w2 w2.heap.size A l := (h.below hbw2).more hbw2.size
  go_wp2_with fail
  refine (append_ok _ _ _ _ _ _ _ [] l w2 w2.heap.size hd2 hb2.size hy2 (by simp; omega)).mono ?_
  rintro e w3 ⟨rfl, r3, hd3, hm3, hl3⟩
  simp only [List.nil_append] at hd3
  have hbw3 := hbw2.trans ((hd2.far hm3 hb2.size).mono hb1.size)
  go_wp2_with fail
  refine (cut_bad _ _ _ _ _ _ n w3 hd3 hn).mono ?_
  rintro e w4 ⟨rfl, rfl⟩
  have t3 := run_text (P := Try.prog) _ 23 9 5 (h.below hbw3).drew Try.underlying23 Try.underlying5 Try.underlying9 l.length c rfl
  go_wp2_with fail
  all_goals go_region_with (go_at_call 13; refine (read_any _ _ _ _ _ _ _ hd3.drew).mono ?_; rintro e w8 ⟨A8, c8, rfl, ho8, hb8⟩; have t4 := run_text (P := Try.prog) w8 23 9 5 (Lies.of_own ho8) Try.underlying23 Try.underlying5 Try.underlying9 l.length c8 rfl; have t5 := run_text (P := Try.prog) w8 23 9 5 ((h.below hbw3.drew).below (hb8.mono hbw3.size)) Try.underlying23 Try.underlying5 Try.underlying9 l.length c rfl; have hbe := hbw3.drew.trans (hb8.mono hbw3.size))
  all_goals go_wp2
  all_goals go_ret
  all_goals exact ⟨rfl, hbe⟩
end Go.Proofs.Ytjbdnogonfnjkaa.diskCuts
