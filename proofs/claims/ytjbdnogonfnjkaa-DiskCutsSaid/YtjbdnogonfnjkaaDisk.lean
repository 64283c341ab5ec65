/- The walks of package disk: each method from what the disk holds to what it holds behind the call. -/
import Derived.Test.YtjbdnogonfnjkaaRows
import Derived.Test.YtjbdnogonfnjkaaRowsof
import Derived.Deep.RegionLaw
import Derived.Deep.QuietTactic
import Derived.BigQuiet
import Derived.ScopeJumps
namespace Go.Proofs.Ytjbdnogonfnjkaa
open Go.RowKit

theorem Try.info5 : (Try.prog.info? 5).map (fun i => (i.zero, i.size, i.bytes)) = some (some (.int .u8 0), 1, 1) := by kernel_rfl

/-- Only block q, row r, and what is new may have turned. -/
structure Moves (w w' : World) (q : Nat) (r : Option Nat) : Prop where
  os : w'.os = w.os
  tape : w'.tape = w.tape
  output : w'.output = w.output
  size : w.heap.size ≤ w'.heap.size
  block : ∀ k, k < w.heap.size → k ≠ q → some k ≠ r → w'.heap[k]? = w.heap[k]?
/-- The row behind: none, the same, or a new one. -/
def Later (w : World) (r r' : Option Nat) : Prop := r' = none ∨ r' = r ∨ ∃ k, r' = some k ∧ w.heap.size ≤ k

theorem Moves.refl (w : World) (q : Nat) (r : Option Nat) : Moves w w q r := ⟨rfl, rfl, rfl, Nat.le_refl _, fun _ _ _ _ => rfl⟩
theorem Moves.below {w w' : World} {q B : Nat} {r : Option Nat} (h : Moves w w' q r) (hB : B ≤ w.heap.size) (hq : B ≤ q) (hr : ∀ k, r = some k → B ≤ k) : Below B w w' :=
  ⟨h.os, h.tape, h.output, h.size, fun k hk => h.block k (by omega) (by omega) (fun e => by have := hr k e.symm; omega)⟩
theorem Moves.of_below {w w' : World} {q : Nat} {r : Option Nat} (h : Below w.heap.size w w') : Moves w w' q r := ⟨h.os, h.tape, h.output, h.size, fun k hk _ _ => h.block k hk⟩
theorem Moves.draws {w w' : World} {q n : Nat} {r : Option Nat} (h : Moves w w' q r) : Moves w (w'.drewN n) q r := ⟨h.os, h.tape, h.output, h.size, h.block⟩
theorem Moves.drew {w w' : World} {q : Nat} {r : Option Nat} (h : Moves w w' q r) : Moves w w'.drew q r := ⟨h.os, h.tape, h.output, h.size, h.block⟩
theorem Moves.put {w w' : World} {q : Nat} {r : Option Nat} (h : Moves w w' q r) (i : Nat) (u : Value) : Moves w (w'.setCell ⟨q, i, none⟩ u) q r :=
  ⟨h.os, h.tape, h.output, by simpa [World.setCell] using h.size, fun k hk h1 h2 => (Below.heap_setCell w' ⟨q, i, none⟩ u k h1).trans (h.block k hk h1 h2)⟩
theorem Moves.grown {w w1 w' : World} {q : Nat} {r row : Option Nat} (h : Moves w w1 q r) (hg : w1.grownBy w' row) (hr : ∀ k, k < w.heap.size → row = some k → r = some k) : Moves w w' q r :=
  ⟨hg.os.trans h.os, hg.tape.trans h.tape, hg.output.trans h.output, Nat.le_trans h.size hg.size, fun k hk h1 h2 =>
    (hg.block k (Nat.lt_of_lt_of_le hk h.size) (fun e => h2 (hr k hk e.symm).symm)).trans (h.block k hk h1 h2)⟩

/-- A disk at block q: what it holds, how much lasts, its room; its row r, one of the call's own. -/
def Disk (w : World) (q base : Nat) (r : Option Nat) (l : List UInt8) (last room : Nat) : Prop :=
  ∃ A c, r = (Value.slice A l.length c).ownBlock ∧ Blk w q 51 #[.slice A l.length c, .int .i64 last, .int .i64 room] ∧ w.ownsRow base 5 1 (.slice A l.length c) l.length (bytesV l) ∧
    base ≤ q ∧ last ≤ l.length ∧ l.length ≤ room ∧ room ≤ 1048576

theorem new_any (room : Nat) (w : World) (h : room ≤ 1048576) :
    Calls Try.prog 11 #[.int .i64 room] w fun e w' => e = .returned (.tuple #[.pointer (some ⟨w.heap.size, 0, none⟩), .int .i64 0]) ∧ w.alloc (.cells #[.slice none 0 0, .int .i64 0, .int .i64 room] 51) = w' := by
  go_enter Try.func11, Try.ntmps11
  go_wp2
  go_ret2
  exact ⟨rfl, rfl⟩
theorem Disk.made (w : World) (base room : Nat) (hb : base ≤ w.heap.size) (h : room ≤ 1048576) : Disk (w.alloc (.cells #[.slice none 0 0, .int .i64 0, .int .i64 room] 51)) w.heap.size base none [] 0 room :=
  ⟨none, 0, rfl, Blk.made _ _ _, World.ownsRow_nil _ _ _ _, hb, Nat.le_refl _, Nat.zero_le _, h⟩
theorem new_bad (room : Int) (w : World) (h : room < 0 ∨ 1048576 < room) :
    Calls Try.prog 11 #[.int .i64 room] w fun e w' => e = .returned (.tuple #[.pointer none, .int .i64 1]) ∧ w = w' := by
  rcases h with h | h
  · go_enter Try.func11, Try.ntmps11
    go_wp2
    go_ret2
    exact ⟨rfl, rfl⟩
  · have h0 : ¬ room < 0 := by omega
    go_enter Try.func11, Try.ntmps11
    go_wp2
    go_ret2
    exact ⟨rfl, rfl⟩

theorem jump_ret {l : Nat} {J : Act → World → Prop} {Q : Exit → Act → World → Prop} {a : Act} {w : World} : Exit.jump l J Q .ret a w = Q .ret a w := rfl
theorem append_full (A : Option Addr) (c q base last room : Nat) (r : Option Nat) (l : List UInt8) (n : Nat) (w : World) (hd : Disk w q base r l last room) (hm : n ≤ 9223372036854775807) (h : room < l.length + n) :
    Calls Try.prog 12 #[.pointer (some ⟨q, 0, none⟩), .slice A n c] w fun e w' => e = .returned (.int .i64 90) ∧ ∃ k, w' = w.drewN k := by
  obtain ⟨Ah, ch, _, hb, ho, _, h1, h2, h3⟩ := hd
  have c0 := hb.cell 0
  have c2 := hb.cell 2
  simp at c0 c2
  clear hb ho
  go_enter Try.func12, Try.ntmps12
  go_wp2
  refine wp_scope_jumps 0 (fun a' w' => (∃ k, w' = w.drewN k) ∧ ∃ u0 u1 u2 u3 u4 u5 u6 u7 u8 u9 u10 u11 u12 u13 u14 u15 u16 u17 u18 u19 u20 u21 u22 u23 u24 u25 u26 u27 u28 : Value, a' = { tmps := #[u0, u1, u2, u3, u4, u5, u6, u7, u8, u9, u10, u11, u12, u13, u14, u15, u16, u17, u18, u19, u20, u21, u22, u23, u24, u25, u26, u27, u28], defers := [] }) (fun _ _ => 0) rfl ?_ ?_
  · go_wp2
    go_quiet (fail)
    go_wp2
    go_step3
    exact ⟨rfl, ⟨_, rfl⟩, _, _, _, _, _, _, _, _, _, _, _, _, _, _, _, _, _, _, _, _, _, _, _, _, _, _, _, _, _, rfl⟩
  · rintro a' w' ⟨⟨k, rfl⟩, u0, u1, u2, u3, u4, u5, u6, u7, u8, u9, u10, u11, u12, u13, u14, u15, u16, u17, u18, u19, u20, u21, u22, u23, u24, u25, u26, u27, u28, rfl⟩
    go_wp2
    rw [jump_ret]
    go_ret
    exact ⟨rfl, _, rfl⟩

theorem append_ok (A : Option Addr) (c q base last room : Nat) (r : Option Nat) (l b : List UInt8) (w : World) (B : Nat) (hd : Disk w q base r l last room) (hB : base ≤ w.heap.size) (hy : Bytes w B A b) (h : l.length + b.length ≤ room) :
    Calls Try.prog 12 #[.pointer (some ⟨q, 0, none⟩), .slice A b.length c] w fun e w' => e = .returned (.int .i64 0) ∧ ∃ r', Disk w' q base r' (l ++ b) last room ∧ Moves w w' q r ∧ Later w r r' := by
  obtain ⟨i0, hi0, hz0, hz1, hz2⟩ := info_parts Try.info5
  obtain ⟨Ah, ch, rfl, hb, ho, hq, h1, h2, h3⟩ := hd
  have c0 := hb.cell 0
  have c2 := hb.cell 2
  have f0 := hb.free 0
  simp at c0 c2
  go_enter Try.func12, Try.ntmps12
  go_wp2
  go_step3
  go_wp2
  go_quiet (fail)
  have ho1 : (w.drewN nq).ownsRow base 5 1 (.slice Ah l.length ch) l.length (bytesV l) := ho
  go_wp2_with (at_builtin; refine wpList_append_from _ rfl (.tmp 24) (.tmp 25) 23 rfl base 5 i0 _ 1 Try.underlying23 hi0 hz0 hz1 hz2 rfl _ l.length (bytesV l) rfl ho1 B A b.length c (bytesV b) rfl (bytesV_length b) (hy.drewN nq) (bytesV_one b) (by unfold maxLen; omega) (by omega) hB ?_; intro A3 c3 w3 hown3 hg3 hat3; have hb3 : Blk w3 q 51 _ := Blk.grown (w := w.drewN nq) hb hg3 (Blk.ne_own hb ho (by decide)); have d0 := hb3.cell 0; have f3 := hb3.free 0; simp at d0)
  rw [Exit.noGoto_ret]
  go_ret
  rw [← bytesV_append] at hown3
  refine ⟨rfl, (Value.slice A3 (l.length + b.length) c3).ownBlock, ⟨A3, c3, by rw [List.length_append], ?_, ?_, hq, by rw [List.length_append]; omega, by rw [List.length_append]; omega, h3⟩, ?_, ?_⟩
  · rw [List.length_append]
    simpa using hb3.put 0 (.slice A3 (l.length + b.length) c3)
  · rw [List.length_append]
    exact own_far hown3 (p := ⟨q, 0, none⟩) (Blk.ne_own hb3 hown3 (by decide)) _
  · exact (((Moves.refl w q _).draws (n := nq)).grown hg3 (fun k _ h => h)).put 0 _
  · rcases hat3 with h | h
    · exact .inr (.inl h)
    · exact .inr (.inr ⟨_, h, Nat.le_refl _⟩)

theorem clone_any (A : Option Addr) (c B : Nat) (l : List UInt8) (w : World) (h : Bytes w B A l) (hB : B ≤ w.heap.size) (hm : l.length ≤ 1048576) :
    Calls Try.prog 21 #[.slice A l.length c] w fun e w' => ∃ A' c', e = .returned (.slice A' l.length c') ∧ w'.ownsRow w.heap.size 5 1 (.slice A' l.length c') l.length (bytesV l) ∧ Below w.heap.size w w' := by
  obtain ⟨i0, hi0, hz0, hz1, hz2⟩ := info_parts Try.info5
  cases A with
  | none =>
    have hl : l = [] := by
      rcases h with h | ⟨b, off, hA, _⟩
      · cases l with
        | nil => rfl
        | cons x l => simp [bytesV] at h
      · cases hA
    subst hl
    have hn := Lib.run_eql_slice_nil (P := Try.prog) w 23 5 none 0 c 0 0 Try.underlying23
    go_enter Try.func21, Try.ntmps21
    go_wp2
    go_ret
    exact ⟨none, 0, rfl, World.ownsRow_nil _ _ _ _, Below.refl _ _⟩
  | some a =>
    have hn := Lib.run_eql_slice_nil (P := Try.prog) w 23 5 (some a) l.length c 0 0 Try.underlying23
    have hown := World.ownsRow_made (e := 5) (size := 1) w #[] 0 (Nat.le_refl _) (Nat.zero_le _) rfl
    go_enter Try.func21, Try.ntmps21
    go_wp2_with (at_builtin; refine wpList_append_from _ rfl (.tmp 5) (.tmp 6) 23 rfl w.heap.size 5 i0 _ 1 Try.underlying23 hi0 hz0 hz1 hz2 rfl _ 0 [] rfl hown B (some a) l.length c (bytesV l) rfl (bytesV_length l) (h.alloc hB _) (bytesV_one l) (by unfold maxLen; omega) (by omega) (by simp) ?_; intro A1 c1 w1 hown1 hgrow1 hat1)
    have hb1 := ((Below.refl w.heap.size w).alloc (Nat.le_refl _) (.cells #[] 5)).trans (below_append hown hgrow1 (Nat.le_refl _) (by simp))
    simp only [Nat.zero_add, List.nil_append] at hown1
    go_ret
    exact ⟨_, _, rfl, hown1, hb1⟩

/-- Read: a copy of what the disk holds. -/
theorem read_any (q base last room : Nat) (r : Option Nat) (l : List UInt8) (w : World) (hd : Disk w q base r l last room) :
    Calls Try.prog 13 #[.pointer (some ⟨q, 0, none⟩)] w fun e w' => ∃ A' c', e = .returned (.slice A' l.length c') ∧ w'.ownsRow w.heap.size 5 1 (.slice A' l.length c') l.length (bytesV l) ∧ Below w.heap.size w w' := by
  obtain ⟨Ah, ch, rfl, hb, ho, hq, h1, h2, h3⟩ := hd
  have c0 := hb.cell 0
  simp at c0
  go_enter Try.func13, Try.ntmps13
  go_wp2_with fail
  refine (clone_any Ah ch w.heap.size l w (Lies.of_own ho) (Nat.le_refl _) (by omega)).mono ?_
  rintro e w1 ⟨A1, c1, rfl, ho1, hb1⟩
  go_wp2
  go_ret
  exact ⟨_, _, rfl, ho1, hb1⟩
theorem lasting_any (q base last room : Nat) (r : Option Nat) (l : List UInt8) (w : World) (hd : Disk w q base r l last room) :
    Calls Try.prog 16 #[.pointer (some ⟨q, 0, none⟩)] w fun e w' => e = .returned (.int .i64 last) ∧ w = w' := by
  obtain ⟨Ah, ch, rfl, hb, ho, hq, h1, h2, h3⟩ := hd
  have c1 := hb.cell 1
  simp at c1
  go_enter Try.func16, Try.ntmps16
  go_wp2
  go_ret
  exact ⟨rfl, rfl⟩

theorem sync_any (q base last room : Nat) (r : Option Nat) (l : List UInt8) (w : World) (hd : Disk w q base r l last room) :
    Calls Try.prog 17 #[.pointer (some ⟨q, 0, none⟩)] w fun e w' => e = .returned (.int .i64 0) ∧ Disk w' q base r l l.length room ∧ Moves w w' q r := by
  obtain ⟨Ah, ch, rfl, hb, ho, hq, h1, h2, h3⟩ := hd
  have c0 := hb.cell 0
  have c1 := hb.cell 1
  have f1 := hb.free 1
  simp at c0 c1
  go_enter Try.func17, Try.ntmps17
  go_wp2
  go_ret
  exact ⟨rfl, ⟨Ah, ch, rfl, by simpa using hb.put 1 (.int .i64 l.length), own_far ho (p := ⟨q, 1, none⟩) (Blk.ne_own hb ho (by decide)) _, hq, Nat.le_refl _, h2, h3⟩, (Moves.refl w q _).put 1 _⟩

theorem cut_bad (q base last room : Nat) (r : Option Nat) (l : List UInt8) (n : Int) (w : World) (hd : Disk w q base r l last room) (h : n < 0 ∨ (l.length : Int) < n) :
    Calls Try.prog 18 #[.pointer (some ⟨q, 0, none⟩), .int .i64 n] w fun e w' => e = .returned (.int .i64 1) ∧ w = w' := by
  obtain ⟨Ah, ch, rfl, hb, ho, hq, h1, h2, h3⟩ := hd
  have c0 := hb.cell 0
  simp at c0
  rcases (show n < 0 ∨ (0 ≤ n ∧ (l.length : Int) < n) by omega) with h | ⟨h, h'⟩
  · go_enter Try.func18, Try.ntmps18
    go_wp2
    go_ret
    exact ⟨rfl, rfl⟩
  · go_enter Try.func18, Try.ntmps18
    go_wp2
    go_ret
    exact ⟨rfl, rfl⟩
/-- A row cut is a row. -/
theorem own_cut {w : World} {base e n m c : Nat} {A : Option Addr} {xs : List Value} (h : w.ownsRow base e 1 (.slice A n c) n xs) (hm : m ≤ n) : w.ownsRow base e 1 (.slice A m c) m (xs.take m) := by
  have hl := h.1
  rcases h.2 with ⟨hv, rfl⟩ | ⟨g, cap, cur, hv, hg, hh, hnc, hcm, hcs, htake⟩
  · injection hv with h1 h2 h3
    subst h1 h3
    have : m = 0 := by omega
    subst this
    exact ⟨by simp, .inl ⟨rfl, rfl⟩⟩
  · injection hv with h1 h2 h3
    subst h1 h3
    refine ⟨by rw [List.length_take]; omega, .inr ⟨g, c, cur, rfl, hg, hh, by omega, hcm, hcs, ?_⟩⟩
    rw [← htake, List.take_take]
    congr 1
    omega
theorem cut_ok (q base last room : Nat) (r : Option Nat) (l : List UInt8) (n : Nat) (w : World) (hd : Disk w q base r l last room) (h : n ≤ l.length) :
    Calls Try.prog 18 #[.pointer (some ⟨q, 0, none⟩), .int .i64 n] w fun e w' => e = .returned (.int .i64 0) ∧ Disk w' q base r (l.take n) n room ∧ Moves w w' q r := by
  obtain ⟨Ah, ch, rfl, hb, ho, hq, h1, h2, h3⟩ := hd
  have c0 := hb.cell 0
  have c1 := hb.cell 1
  have f0 := hb.free 0
  have f1 := hb.free 1
  have hcap := own_cap ho
  simp at c0 c1
  go_enter Try.func18, Try.ntmps18
  go_wp2
  go_ret
  have hb0 := hb.put 0 (.slice Ah n ch)
  have hb1 := hb0.put 1 (.int .i64 n)
  have ho0 := own_far (own_cut ho h) (p := ⟨q, 0, none⟩) (by have := Blk.ne_own hb (own_cut ho h) (by decide); exact this) (.slice Ah n ch)
  have ho1 := own_far ho0 (p := ⟨q, 1, none⟩) (Blk.ne_own hb0 ho0 (by decide)) (.int .i64 n)
  have hlen : (l.take n).length = n := by rw [List.length_take]; omega
  have hr : (Value.slice Ah l.length ch).ownBlock = (Value.slice Ah (l.take n).length ch).ownBlock := by cases Ah <;> rfl
  refine ⟨rfl, ⟨Ah, ch, hr, by rw [hlen]; simpa using hb1, ?_, hq, by omega, by omega, h3⟩, ((Moves.refl w q _).put 0 _).put 1 _⟩
  rw [hlen, show bytesV (l.take n) = (bytesV l).take n by simp [bytesV, List.map_take]]
  exact ho1

theorem swap_full (A : Option Addr) (c q base last room : Nat) (r : Option Nat) (l : List UInt8) (n : Nat) (w : World) (hd : Disk w q base r l last room) (h : room < n) :
    Calls Try.prog 19 #[.pointer (some ⟨q, 0, none⟩), .slice A n c] w fun e w' => e = .returned (.int .i64 90) ∧ w = w' := by
  obtain ⟨Ah, ch, _, hb, ho, _, h1, h2, h3⟩ := hd
  have c2 := hb.cell 2
  simp at c2
  clear hb ho
  go_enter Try.func19, Try.ntmps19
  go_wp2
  refine wp_scope_jumps 0 (fun a' w' => w = w' ∧ ∃ u0 u1 u2 u3 u4 u5 u6 u7 u8 u9 u10 u11 u12 u13 u14 u15 u16 u17 u18 u19 u20 u21 u22 u23 : Value, a' = { tmps := #[u0, u1, u2, u3, u4, u5, u6, u7, u8, u9, u10, u11, u12, u13, u14, u15, u16, u17, u18, u19, u20, u21, u22, u23], defers := [] }) (fun _ _ => 0) rfl ?_ ?_
  · go_wp2
    go_step3
    exact ⟨rfl, rfl, _, _, _, _, _, _, _, _, _, _, _, _, _, _, _, _, _, _, _, _, _, _, _, _, rfl⟩
  · rintro a' w' ⟨rfl, u0, u1, u2, u3, u4, u5, u6, u7, u8, u9, u10, u11, u12, u13, u14, u15, u16, u17, u18, u19, u20, u21, u22, u23, rfl⟩
    go_wp2
    rw [jump_ret]
    go_ret
    exact ⟨rfl, rfl⟩
theorem swap_ok (A : Option Addr) (c q base last room : Nat) (r : Option Nat) (l b : List UInt8) (w : World) (B : Nat) (hd : Disk w q base r l last room) (hB : base ≤ w.heap.size) (hBB : B ≤ w.heap.size) (hy : Bytes w B A b) (h : b.length ≤ room) :
    Calls Try.prog 19 #[.pointer (some ⟨q, 0, none⟩), .slice A b.length c] w fun e w' => e = .returned (.int .i64 0) ∧ ∃ r', Disk w' q base r' b b.length room ∧ Moves w w' q r ∧ Later w r r' := by
  obtain ⟨Ah, ch, rfl, hb, ho, hq, h1, h2, h3⟩ := hd
  have c0 := hb.cell 0
  have c1 := hb.cell 1
  have c2 := hb.cell 2
  have f0 := hb.free 0
  have f1 := hb.free 1
  simp at c0 c1 c2
  go_enter Try.func19, Try.ntmps19
  go_wp2
  go_step3
  go_wp2_with fail
  refine (clone_any A c B b w hy hBB (by omega)).mono ?_
  rintro e w1 ⟨A1, c1, rfl, ho1, hb1⟩
  have hbw := hb.below hb1 hb.lt
  have d0 := hbw.cell 0
  have d1 := hbw.cell 1
  have g0 := hbw.free 0
  have g1 := hbw.free 1
  simp at d0 d1
  go_wp2
  rw [Exit.noGoto_ret]
  go_ret
  have hb2 := hbw.put 0 (.slice A1 b.length c1)
  have hb3 := hb2.put 1 (.int .i64 b.length)
  have ho2 := own_far (own_mono ho1 hB) (p := ⟨q, 0, none⟩) (Blk.ne_own hbw ho1 (by decide)) (.slice A1 b.length c1)
  have ho3 := own_far ho2 (p := ⟨q, 1, none⟩) (Blk.ne_own hb2 ho2 (by decide)) (.int .i64 b.length)
  refine ⟨rfl, _, ⟨A1, c1, rfl, by simpa using hb3, ho3, hq, Nat.le_refl _, h, h3⟩, ((Moves.of_below hb1).put 0 _).put 1 _, ?_⟩
  cases hA : (Value.slice A1 b.length c1).ownBlock with
  | none => exact .inl rfl
  | some k => exact .inr (.inr ⟨k, rfl, (ho1.lt k hA).1⟩)

theorem crash_any (q base last room : Nat) (r : Option Nat) (l : List UInt8) (keep : Int) (w : World) (hd : Disk w q base r l last room) (hk : -9223372036854775808 ≤ keep ∧ keep ≤ 9223372036854775807) :
    Calls Try.prog 20 #[.pointer (some ⟨q, 0, none⟩), .int .i64 keep] w fun e w' => e = .returned (.tuple #[]) ∧ Disk w' q base r (l.take (last + min keep.toNat (l.length - last))) (last + min keep.toNat (l.length - last)) room ∧ Moves w w' q r := by
  obtain ⟨Ah, ch, rfl, hb, ho, hq, h1, h2, h3⟩ := hd
  have c0 := hb.cell 0
  have c1 := hb.cell 1
  have f0 := hb.free 0
  have f1 := hb.free 1
  have hcap := own_cap ho
  simp at c0 c1
  obtain ⟨m, hm⟩ : ∃ m, m = min keep.toNat (l.length - last) := ⟨_, rfl⟩
  have hml : last + m ≤ l.length := by omega
  have em := Lib.hid (show (if (l.length : Int) - (last : Int) < (if keep < 0 then 0 else keep) then (l.length : Int) - last else (if keep < 0 then 0 else keep)) = (m : Int) by rw [hm]; split <;> split <;> omega)
  rw [← hm]
  clear hm
  go_enter Try.func20, Try.ntmps20
  go_wp2
  go_quiet (fail)
  simp only [em.out]
  generalize (if keep < 0 then (0 : Int) else keep) = kk
  go_wp2
  go_region
  go_wp2
  go_end0
  have hb0 : Blk (w.drewN nq) q 51 #[.slice Ah l.length ch, .int .i64 last, .int .i64 room] := hb
  have hb1 := hb0.put 1 (.int .i64 ((last : Int) + m))
  have hb2 := hb1.put 0 (.slice Ah (last + m) ch)
  have hoc : (w.drewN nq).ownsRow base 5 1 (.slice Ah (last + m) ch) (last + m) ((bytesV l).take (last + m)) := own_cut ho hml
  have ho1 := own_far hoc (p := ⟨q, 1, none⟩) (Blk.ne_own hb0 hoc (by decide)) (.int .i64 ((last : Int) + m))
  have ho2 := own_far ho1 (p := ⟨q, 0, none⟩) (Blk.ne_own hb1 ho1 (by decide)) (.slice Ah (last + m) ch)
  have hlen : (l.take (last + m)).length = last + m := by rw [List.length_take]; omega
  have hr : (Value.slice Ah l.length ch).ownBlock = (Value.slice Ah (l.take (last + m)).length ch).ownBlock := by cases Ah <;> rfl
  refine ⟨rfl, ⟨Ah, ch, hr, ?_, ?_, hq, by omega, by omega, h3⟩, ((((Moves.refl w q _).draws (n := nq)).put 1 _).put 0 _).drew⟩
  · rw [hlen]
    have e : ((last + m : Nat) : Int) = (last : Int) + m := by omega
    rw [e]
    change Blk (((w.drewN nq).setCell ⟨q, 1, none⟩ (.int .i64 ((last : Int) + m))).setCell ⟨q, 0, none⟩ (.slice Ah (last + m) ch)) q 51 _
    simpa using hb2
  · rw [hlen, show bytesV (l.take (last + m)) = (bytesV l).take (last + m) by simp [bytesV, List.map_take]]
    exact ho2

/-! ### Of none -/
theorem nil_append (A : Option Addr) (n c : Nat) (w : World) : Calls Try.prog 12 #[.pointer none, .slice A n c] w fun e w' => e = .returned (.int .i64 1) ∧ w = w' := by
  go_enter Try.func12, Try.ntmps12
  go_wp2
  go_step3
  go_wp2
  rw [Exit.noGoto_ret]
  go_ret
  exact ⟨rfl, rfl⟩
theorem nil_swap (A : Option Addr) (n c : Nat) (w : World) : Calls Try.prog 19 #[.pointer none, .slice A n c] w fun e w' => e = .returned (.int .i64 1) ∧ w = w' := by
  go_enter Try.func19, Try.ntmps19
  go_wp2
  go_step3
  go_wp2
  rw [Exit.noGoto_ret]
  go_ret
  exact ⟨rfl, rfl⟩
theorem nil_sync (w : World) : Calls Try.prog 17 #[.pointer none] w fun e w' => e = .returned (.int .i64 1) ∧ w = w' := by
  go_enter Try.func17, Try.ntmps17
  go_wp2
  go_ret
  exact ⟨rfl, rfl⟩
theorem nil_cut (n : Int) (w : World) : Calls Try.prog 18 #[.pointer none, .int .i64 n] w fun e w' => e = .returned (.int .i64 1) ∧ w = w' := by
  go_enter Try.func18, Try.ntmps18
  go_wp2
  go_ret
  exact ⟨rfl, rfl⟩
theorem nil_crash (n : Int) (w : World) : Calls Try.prog 20 #[.pointer none, .int .i64 n] w fun e w' => e = .returned (.tuple #[]) ∧ w = w' := by
  go_enter Try.func20, Try.ntmps20
  go_wp2
  refine bodyPost_ret (results_none rfl _ _ _) rfl ?_
  exact ⟨rfl, rfl⟩
theorem nil_read (w : World) : Calls Try.prog 13 #[.pointer none] w fun e w' => e = .returned (.slice none 0 0) ∧ w = w' := by
  go_enter Try.func13, Try.ntmps13
  go_wp2
  go_ret
  exact ⟨rfl, rfl⟩
theorem nil_lasting (w : World) : Calls Try.prog 16 #[.pointer none] w fun e w' => e = .returned (.int .i64 0) ∧ w = w' := by
  go_enter Try.func16, Try.ntmps16
  go_wp2
  go_ret
  exact ⟨rfl, rfl⟩
end Go.Proofs.Ytjbdnogonfnjkaa
