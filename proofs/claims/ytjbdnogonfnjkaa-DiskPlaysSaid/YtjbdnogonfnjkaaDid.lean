/- Did: both disks, the program's and the document's, do the same call. -/
import Derived.Test.YtjbdnogonfnjkaaRef2
namespace Go.Proofs.Ytjbdnogonfnjkaa
open Go.RowKit
attribute [local go_sem ↓] Go.wp_at_zero Go.wp_at_succ

theorem own_stay {w w' : World} {base e n q : Nat} {r : Option Nat} {v : Value} {xs : List Value} (h : w.ownsRow base e 1 v n xs) (hm : Moves w w' q r) (hq : some q ≠ v.ownBlock) (hr : v.ownBlock = none ∨ v.ownBlock ≠ r) : w'.ownsRow base e 1 v n xs := by
  refine ⟨h.1, ?_⟩
  rcases h.2 with hn | ⟨g, cap, cur, hv, hg, hh, rest⟩
  · exact .inl hn
  · have hb : v.ownBlock = some g := by rw [hv]; rfl
    refine .inr ⟨g, cap, cur, hv, hg, (hm.block g (Array.getElem?_eq_some_iff.1 hh).1 (fun e => hq (by rw [hb, e])) ?_).trans hh, rest⟩
    rcases hr with h | h
    · rw [hb] at h; cases h
    · rwa [hb] at h
theorem Blk.stay {w w' : World} {g t q : Nat} {cs : Array Value} {r : Option Nat} (h : Blk w g t cs) (hm : Moves w w' q r) (hq : g ≠ q) (hr : some g ≠ r) : Blk w' g t cs := (hm.block g h.lt hq hr).trans h
theorem Ref.lt {w : World} {q base last room : Nat} {r : Option Nat} {l : List UInt8} (h : Ref w q base r l last room) : base ≤ q ∧ q < w.heap.size := by
  obtain ⟨A, c, rfl, hb, ho, hq, rest⟩ := h
  exact ⟨hq, hb.lt⟩
theorem Ref.row {w : World} {q base last room : Nat} {r : Option Nat} {l : List UInt8} (h : Ref w q base r l last room) : ∀ k, r = some k → base ≤ k ∧ k < w.heap.size := by
  obtain ⟨A, c, hr, hblk, ho, rest⟩ := h
  intro k hk
  exact ho.lt k (by rw [← hr]; exact hk)
theorem Ref.far {w w' : World} {q base last room : Nat} {r : Option Nat} {l : List UInt8} (h : Ref w q base r l last room) (hm : Moves w w' q r) (hs : base ≤ w.heap.size) : Below base w w' :=
  hm.below hs h.lt.1 (fun k hk => (h.row k hk).1)
theorem Ref.below {w w' : World} {q base last room : Nat} {r : Option Nat} {l : List UInt8} (h : Ref w q base r l last room) (hb : Below w.heap.size w w') : Ref w' q base r l last room := by
  obtain ⟨A, c, hr, hblk, ho, rest⟩ := h
  exact ⟨A, c, hr, hblk.below hb hblk.lt, own_below ho hb, rest⟩

/-- Both disks, of the same bytes, and neither is in the other's way. -/
structure Two (w : World) (base q q2 : Nat) (r r2 : Option Nat) (l : List UInt8) (last room : Nat) : Prop where
  d : Disk w q base r l last room
  e : Ref w q2 base r2 l last room
  ne : q ≠ q2
  rows : r2 = none ∨ r2 ≠ r
section
variable {w w' : World} {base q q2 last last' room : Nat} {r r2 r' : Option Nat} {l l' : List UInt8}
theorem Two.below (h : Two w base q q2 r r2 l last room) (hb : Below w.heap.size w w') : Two w' base q q2 r r2 l last room := ⟨h.d.below hb, h.e.below hb, h.ne, h.rows⟩
/-- The program's disk has moved; the document's stays. -/
theorem Two.stays (h : Two w base q q2 r r2 l last room) (hm : Moves w w' q r) : Ref w' q2 base r2 l last room := by
  obtain ⟨⟨A, c, hr, hblk, ho, hq, rest⟩, ⟨A2, c2, hr2, hblk2, ho2, hq2, rest2⟩, hne, hrows⟩ := h
  exact ⟨A2, c2, hr2, hblk2.stay hm (Ne.symm hne) (by rw [hr]; exact hblk2.ne_own ho (by decide)), own_stay ho2 hm (hblk.ne_own ho2 (by decide)) (by rw [← hr2]; exact hrows), hq2, rest2⟩
/-- The document's disk has moved; the program's stays. -/
theorem moved {w w' : World} {base q q2 last last' room : Nat} {r r2 : Option Nat} {l l' : List UInt8} (h : Disk w q base r l last room) (h2 : Ref w q2 base r2 l' last' room) (hne : q ≠ q2) (hrows : r2 = none ∨ r2 ≠ r) (hm : Moves w w' q2 r2) : Disk w' q base r l last room := by
  obtain ⟨A, c, hr, hblk, ho, hq, rest⟩ := h
  obtain ⟨A2, c2, hr2, hblk2, ho2, hq2, rest2⟩ := h2
  refine ⟨A, c, hr, hblk.stay hm hne (by rw [hr2]; exact hblk.ne_own ho2 (by decide)), own_stay ho hm (hblk2.ne_own ho (by decide)) ?_, hq, rest⟩
  rw [← hr]
  rcases hrows with h | h
  · rw [h]
    cases r with
    | none => exact .inl rfl
    | some k => exact .inr (by simp)
  · exact .inr (Ne.symm h)
theorem rows_later (h : r2 = none ∨ r2 ≠ r) (hl : Later w r r') (h2 : ∀ k, r2 = some k → k < w.heap.size) : r2 = none ∨ r2 ≠ r' := by
  rcases hl with rfl | rfl | ⟨k, rfl, hk⟩
  · cases r2 with
    | none => exact .inl rfl
    | some k => exact .inr (by simp)
  · exact h
  · cases r2 with
    | none => exact .inl rfl
    | some j => exact .inr (fun e => by have := h2 j rfl; injection e with e; omega)
theorem rows_later2 {r2' : Option Nat} (h : r2 = none ∨ r2 ≠ r) (hl : Later w r2 r2') (h2 : ∀ k, r = some k → k < w.heap.size) : r2' = none ∨ r2' ≠ r := by
  rcases hl with rfl | rfl | ⟨k, rfl, hk⟩
  · exact .inl rfl
  · exact h
  · refine .inr (fun e => ?_)
    have := h2 k e.symm
    omega
end

/-- What a call leaves of both. -/
def Both (w0 : World) (q q2 room : Nat) (w' : World) : Prop := ∃ r r2 l last, Two w' w0.heap.size q q2 r r2 l last room ∧ Below w0.heap.size w0 w'
theorem Both.mk_ {w0 w1 w2 : World} {q q2 last last' room : Nat} {r r2 r' r2' : Option Nat} {l l' : List UInt8} {w : World} (h : Two w w0.heap.size q q2 r r2 l last room) (hb0 : Below w0.heap.size w0 w)
    (hd : Disk w1 q w0.heap.size r' l' last' room) (hm : Moves w w1 q r) (hl : Later w r r') (he : Ref w2 q2 w0.heap.size r2' l' last' room) (hm2 : Moves w1 w2 q2 r2) (hl2 : Later w1 r2 r2') : Both w0 q q2 room w2 := by
  have h2 := h.stays hm
  have hrows := rows_later h.rows hl (fun k hk => (h.e.row k hk).2)
  have hd2 := moved hd h2 h.ne hrows hm2
  have hb1 := hb0.trans (h.d.far hm hb0.size)
  exact ⟨r', r2', l', last', ⟨hd2, he, h.ne, rows_later2 hrows hl2 (fun k hk => (hd.row k hk).2)⟩, hb1.trans (h2.far hm2 hb1.size)⟩
theorem Ref.drewN {w : World} {q base last room : Nat} {r : Option Nat} {l : List UInt8} (h : Ref w q base r l last room) (k : Nat) : Ref (w.drewN k) q base r l last room := h
theorem Both.same {w0 w : World} {q q2 last room : Nat} {r r2 : Option Nat} {l : List UInt8} (h : Two w w0.heap.size q q2 r r2 l last room) (hb0 : Below w0.heap.size w0 w) : Both w0 q q2 room w := ⟨_, _, _, _, h, hb0⟩
theorem Both.drewN {w0 w : World} {q q2 room : Nat} (h : Both w0 q q2 room w) (k : Nat) : Both w0 q q2 room (w.drewN k) := by
  obtain ⟨r, r2, l, last, hT, hb⟩ := h
  exact ⟨r, r2, l, last, ⟨hT.d, hT.e, hT.ne, hT.rows⟩, below_draws hb⟩
theorem Later.same (w : World) (r : Option Nat) : Later w r r := .inr (.inl rfl)

section
variable (w0 w : World) (q q2 last room : Nat) (r r2 : Option Nat) (l : List UInt8) (hT : Two w w0.heap.size q q2 r r2 l last room) (hb0 : Below w0.heap.size w0 w)
include hT hb0
/-- The box that the call lays its argument into, behind a draw or not. -/
theorem boxed (x y z : Value) : Two (w.alloc (.cells #[x, y, z] 36)) w0.heap.size q q2 r r2 l last room ∧ Below w0.heap.size w0 (w.alloc (.cells #[x, y, z] 36)) ∧ Two (w.alloc (.cells #[x, y, z] 36)).drew w0.heap.size q q2 r r2 l last room ∧ Below w0.heap.size w0 (w.alloc (.cells #[x, y, z] 36)).drew ∧
    Blk (w.alloc (.cells #[x, y, z] 36)).drew w.heap.size 36 #[x, y, z] ∧ w.heap.size ≠ q ∧ some w.heap.size ≠ r := by
  have h1 := hT.below ((Below.refl _ _).alloc (Nat.le_refl _) (.cells #[x, y, z] 36))
  have h2 := hb0.alloc hb0.size (.cells #[x, y, z] 36)
  refine ⟨h1, h2, ⟨h1.d, h1.e, h1.ne, h1.rows⟩, h2.drew, Blk.made w 36 #[x, y, z], Nat.ne_of_gt hT.d.lt.2, fun e => ?_⟩
  have := (hT.d.row _ e.symm).2
  omega

set_option maxRecDepth 100000 in
set_option maxHeartbeats 4000000 in
theorem did_append (n : Int) (A : Option Addr) (c : Nat) (b : List UInt8) (hy : Bytes w w0.heap.size A b) (_hm : b.length ≤ 300) (h : l.length + b.length ≤ room) :
    Calls Try.prog 15 #[.pointer (some ⟨q, 0, none⟩), .pointer (some ⟨q2, 0, none⟩), .agg #[.int .i64 1, .int .i64 n, .slice A b.length c]] w fun e w' => e = .returned (.bool true) ∧ Both w0 q q2 room w' := by
  obtain ⟨hT1, hb1, hT2, hb2, hx, hxq, hxr⟩ := boxed w0 w q q2 last room r r2 l hT hb0 (.int .i64 1) (.int .i64 n) (.slice A b.length c)
  have hyb := (hy.alloc hb0.size (.cells #[.int .i64 1, .int .i64 n, .slice A b.length c] 36)).drew
  have hs2 := hb2.size
  go_enter Try.func15, Try.ntmps15
  go_wp2_with fail
  go_region_with (first
    | (go_at_call 12; refine (append_ok _ _ _ _ _ _ _ l b _ _ hT2.d hs2 hyb h).mono ?_; rintro e w2 ⟨rfl, r', hd2, hm2, hl2⟩; have hx2 := (Blk.stay hx hm2 hxq hxr).cell 2; simp at hx2; have he2 := hT2.stays hm2; have hbw2 := hb2.trans (hT2.d.far hm2 hb2.size); have hs3 := hbw2.size; have hyb2 := hyb.below (hT2.d.far hm2 hb2.size))
    | (go_at_call 22; refine (ref_append _ _ _ _ _ _ _ l b _ _ he2 hs3 hs3 hyb2 h).mono ?_; rintro e w3 ⟨rfl, r2', he3, hm3, hl3⟩; have FIN := Both.mk_ hT2 hb2 hd2 hm2 hl2 he3 hm3 hl3))
  all_goals (go_wp2_with fail; go_ret; exact ⟨rfl, FIN⟩)
set_option maxRecDepth 100000 in
set_option maxHeartbeats 4000000 in
theorem did_append_full (n : Int) (A : Option Addr) (c m : Nat) (hm : m ≤ 300) (h : room < l.length + m) :
    Calls Try.prog 15 #[.pointer (some ⟨q, 0, none⟩), .pointer (some ⟨q2, 0, none⟩), .agg #[.int .i64 1, .int .i64 n, .slice A m c]] w fun e w' => e = .returned (.bool true) ∧ Both w0 q q2 room w' := by
  obtain ⟨hT1, hb1, hT2, hb2, hx, hxq, hxr⟩ := boxed w0 w q q2 last room r r2 l hT hb0 (.int .i64 1) (.int .i64 n) (.slice A m c)
  have hx2 := fun k => Blk.cell (w := (w.alloc (.cells #[.int .i64 1, .int .i64 n, .slice A m c] 36)).drewN k) hx 2
  simp only [show (#[Value.int .i64 1, .int .i64 n, .slice A m c] : Array Value)[2]? = some (.slice A m c) from rfl] at hx2
  go_enter Try.func15, Try.ntmps15
  go_wp2_with fail
  go_region_with (first
    | (go_at_call 12; refine (append_full _ _ _ _ _ _ _ l m _ hT2.d (by omega) h).mono ?_; rintro e w2 ⟨rfl, k1, rfl⟩; have hx3 := hx2 (1 + k1))
    | (go_at_call 22; refine (ref_full _ _ _ _ _ _ _ l m _ (Ref.drewN hT1.e _) (by omega) h).mono ?_; rintro e w3 ⟨rfl, k2, rfl⟩; have FIN := fun k => (Both.same hT1 hb1).drewN k))
  all_goals (go_wp2_with fail; go_ret; exact ⟨rfl, FIN _⟩)
set_option maxRecDepth 100000 in
set_option maxHeartbeats 4000000 in
theorem did_sync (n : Int) (v : Value) :
    Calls Try.prog 15 #[.pointer (some ⟨q, 0, none⟩), .pointer (some ⟨q2, 0, none⟩), .agg #[.int .i64 2, .int .i64 n, v]] w fun e w' => e = .returned (.bool true) ∧ Both w0 q q2 room w' := by
  obtain ⟨hT1, hb1, hT2, hb2, hx, hxq, hxr⟩ := boxed w0 w q q2 last room r r2 l hT hb0 (.int .i64 2) (.int .i64 n) (v)
  go_enter Try.func15, Try.ntmps15
  go_wp2_with fail
  refine (sync_any _ _ _ _ _ _ _ hT1.d).mono ?_
  rintro e w2 ⟨rfl, hd2, hm2⟩
  go_wp2_with fail
  refine (ref_sync _ _ _ _ _ _ _ (hT1.stays hm2)).mono ?_
  rintro e w3 ⟨rfl, he3, hm3⟩
  have FIN := Both.mk_ hT1 hb1 hd2 hm2 (Later.same _ _) he3 hm3 (Later.same _ _)
  go_wp2_with fail
  go_ret
  exact ⟨rfl, FIN⟩
set_option maxRecDepth 100000 in
set_option maxHeartbeats 4000000 in
theorem did_cut (n : Nat) (v : Value) (h : n ≤ l.length) :
    Calls Try.prog 15 #[.pointer (some ⟨q, 0, none⟩), .pointer (some ⟨q2, 0, none⟩), .agg #[.int .i64 3, .int .i64 n, v]] w fun e w' => e = .returned (.bool true) ∧ Both w0 q q2 room w' := by
  obtain ⟨hT1, hb1, hT2, hb2, hx, hxq, hxr⟩ := boxed w0 w q q2 last room r r2 l hT hb0 (.int .i64 3) (.int .i64 n) (v)
  have hs2 := hb2.size
  go_enter Try.func15, Try.ntmps15
  go_wp2_with fail
  go_region_with (first
    | (go_at_call 18; refine (cut_ok _ _ _ _ _ l n _ hT2.d h).mono ?_; rintro e w2 ⟨rfl, hd2, hm2⟩; have hx2 := (Blk.stay hx hm2 hxq hxr).cell 1; simp at hx2; have he2 := hT2.stays hm2; have hbw2 := hb2.trans (hT2.d.far hm2 hb2.size); have hs3 := hbw2.size)
    | (go_at_call 24; refine (ref_cut _ _ _ _ _ l n _ he2 hs3 h).mono ?_; rintro e w3 ⟨rfl, r2', he3, hm3, hl3⟩; have FIN := Both.mk_ hT2 hb2 hd2 hm2 (Later.same _ _) he3 hm3 hl3))
  all_goals (go_wp2_with fail; go_ret; exact ⟨rfl, FIN⟩)
set_option maxRecDepth 100000 in
set_option maxHeartbeats 4000000 in
theorem did_cut_bad (n : Int) (v : Value) (h : n < 0 ∨ (l.length : Int) < n) :
    Calls Try.prog 15 #[.pointer (some ⟨q, 0, none⟩), .pointer (some ⟨q2, 0, none⟩), .agg #[.int .i64 3, .int .i64 n, v]] w fun e w' => e = .returned (.bool true) ∧ Both w0 q q2 room w' := by
  obtain ⟨hT1, hb1, hT2, hb2, hx, hxq, hxr⟩ := boxed w0 w q q2 last room r r2 l hT hb0 (.int .i64 3) (.int .i64 n) (v)
  have hx2 := hx.cell 1
  simp only [show (#[Value.int .i64 3, .int .i64 n, v] : Array Value)[1]? = some (.int .i64 n) from rfl] at hx2
  go_enter Try.func15, Try.ntmps15
  go_wp2_with fail
  go_region_with (first
    | (go_at_call 18; refine (cut_bad _ _ _ _ _ l n _ hT2.d h).mono ?_; rintro e w2 ⟨rfl, rfl⟩; skip)
    | (go_at_call 24; refine (ref_cut_bad _ _ _ _ _ l n _ hT2.e h).mono ?_; rintro e w3 ⟨rfl, rfl⟩; have FIN := Both.same hT2 hb2))
  all_goals (go_wp2_with fail; go_ret; exact ⟨rfl, FIN⟩)
set_option maxRecDepth 100000 in
set_option maxHeartbeats 4000000 in
theorem did_swap (n : Int) (A : Option Addr) (c : Nat) (b : List UInt8) (hy : Bytes w w0.heap.size A b) (_hm : b.length ≤ 300) (h : b.length ≤ room) :
    Calls Try.prog 15 #[.pointer (some ⟨q, 0, none⟩), .pointer (some ⟨q2, 0, none⟩), .agg #[.int .i64 4, .int .i64 n, .slice A b.length c]] w fun e w' => e = .returned (.bool true) ∧ Both w0 q q2 room w' := by
  obtain ⟨hT1, hb1, hT2, hb2, hx, hxq, hxr⟩ := boxed w0 w q q2 last room r r2 l hT hb0 (.int .i64 4) (.int .i64 n) (.slice A b.length c)
  have hyb := (hy.alloc hb0.size (.cells #[.int .i64 4, .int .i64 n, .slice A b.length c] 36)).drew
  have hs2 := hb2.size
  go_enter Try.func15, Try.ntmps15
  go_wp2_with fail
  go_region_with (first
    | (go_at_call 19; refine (swap_ok _ _ _ _ _ _ _ l b _ _ hT2.d hs2 hs2 hyb h).mono ?_; rintro e w2 ⟨rfl, r', hd2, hm2, hl2⟩; have hx2 := (Blk.stay hx hm2 hxq hxr).cell 2; simp at hx2; have he2 := hT2.stays hm2; have hbw2 := hb2.trans (hT2.d.far hm2 hb2.size); have hs3 := hbw2.size; have hyb2 := hyb.below (hT2.d.far hm2 hb2.size))
    | (go_at_call 25; refine (ref_swap _ _ _ _ _ _ _ l b _ _ he2 hs3 hs3 hyb2 h).mono ?_; rintro e w3 ⟨rfl, r2', he3, hm3, hl3⟩; have FIN := Both.mk_ hT2 hb2 hd2 hm2 hl2 he3 hm3 hl3))
  all_goals (go_wp2_with fail; go_ret; exact ⟨rfl, FIN⟩)
set_option maxRecDepth 100000 in
set_option maxHeartbeats 4000000 in
theorem did_swap_full (n : Int) (A : Option Addr) (c m : Nat) (h : room < m) :
    Calls Try.prog 15 #[.pointer (some ⟨q, 0, none⟩), .pointer (some ⟨q2, 0, none⟩), .agg #[.int .i64 4, .int .i64 n, .slice A m c]] w fun e w' => e = .returned (.bool true) ∧ Both w0 q q2 room w' := by
  obtain ⟨hT1, hb1, hT2, hb2, hx, hxq, hxr⟩ := boxed w0 w q q2 last room r r2 l hT hb0 (.int .i64 4) (.int .i64 n) (.slice A m c)
  have hx2 := hx.cell 2
  simp only [show (#[Value.int .i64 4, .int .i64 n, .slice A m c] : Array Value)[2]? = some (.slice A m c) from rfl] at hx2
  go_enter Try.func15, Try.ntmps15
  go_wp2_with fail
  go_region_with (first
    | (go_at_call 19; refine (swap_full _ _ _ _ _ _ _ l m _ hT2.d h).mono ?_; rintro e w2 ⟨rfl, rfl⟩; skip)
    | (go_at_call 25; refine (ref_swap_full _ _ _ _ _ _ _ l m _ hT2.e h).mono ?_; rintro e w3 ⟨rfl, rfl⟩; have FIN := Both.same hT2 hb2))
  all_goals (go_wp2_with fail; go_ret; exact ⟨rfl, FIN⟩)
set_option maxRecDepth 100000 in
set_option maxHeartbeats 4000000 in
theorem did_crash (n : Int) (v : Value) (hk : -9223372036854775808 ≤ n ∧ n ≤ 9223372036854775807) :
    Calls Try.prog 15 #[.pointer (some ⟨q, 0, none⟩), .pointer (some ⟨q2, 0, none⟩), .agg #[.int .i64 5, .int .i64 n, v]] w fun e w' => e = .returned (.bool true) ∧ Both w0 q q2 room w' := by
  obtain ⟨hT1, hb1, hT2, hb2, hx, hxq, hxr⟩ := boxed w0 w q q2 last room r r2 l hT hb0 (.int .i64 5) (.int .i64 n) (v)
  go_enter Try.func15, Try.ntmps15
  go_wp2_with fail
  refine (crash_any _ _ _ _ _ _ n _ hT1.d hk).mono ?_
  rintro e w2 ⟨rfl, hd2, hm2⟩
  have hbw2 := hb1.trans (hT1.d.far hm2 hb1.size)
  have hx2 := (Blk.stay (w := w.alloc (.cells #[.int .i64 5, .int .i64 n, v] 36)) hx hm2 hxq hxr).cell 1
  simp at hx2
  go_wp2_with fail
  refine (ref_crash _ _ _ _ _ _ n _ (hT1.stays hm2) hbw2.size hk).mono ?_
  rintro e w3 ⟨rfl, r2', he3, hm3, hl3⟩
  have FIN := Both.mk_ hT1 hb1 hd2 hm2 (Later.same _ _) he3 hm3 hl3
  go_wp2_with fail
  go_ret
  exact ⟨rfl, FIN⟩
set_option maxRecDepth 100000 in
set_option maxHeartbeats 4000000 in
theorem did_other (kd n : Int) (v : Value) (h1 : kd ≠ 1) (h2 : kd ≠ 2) (h3 : kd ≠ 3) (h4 : kd ≠ 4) (h5 : kd ≠ 5) :
    Calls Try.prog 15 #[.pointer (some ⟨q, 0, none⟩), .pointer (some ⟨q2, 0, none⟩), .agg #[.int .i64 kd, .int .i64 n, v]] w fun e w' => e = .returned (.bool true) ∧ Both w0 q q2 room w' := by
  obtain ⟨hT1, hb1, hT2, hb2, hx, hxq, hxr⟩ := boxed w0 w q q2 last room r r2 l hT hb0 (.int .i64 kd) (.int .i64 n) (v)
  have e1 : (kd == 1) = false := by simpa using h1
  have e2 : (kd == 2) = false := by simpa using h2
  have e3 : (kd == 3) = false := by simpa using h3
  have e4 : (kd == 4) = false := by simpa using h4
  have e5 : (kd == 5) = false := by simpa using h5
  clear h1 h2 h3 h4 h5
  go_enter Try.func15, Try.ntmps15
  go_wp2_with fail
  go_ret
  exact ⟨rfl, Both.same hT1 hb1⟩
end
end Go.Proofs.Ytjbdnogonfnjkaa
