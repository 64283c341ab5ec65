/- The walks of the document's disk: each method from what it holds to what it holds behind the call. -/
import Derived.Test.YtjbdnogonfnjkaaSteps
namespace Go.Proofs.Ytjbdnogonfnjkaa
open Go.RowKit

/-- The document's disk at block q: what it holds, how much lasts, its room; its row r, one of the call's own. -/
def Ref (w : World) (q base : Nat) (r : Option Nat) (l : List UInt8) (last room : Nat) : Prop :=
  ∃ A c, r = (Value.slice A l.length c).ownBlock ∧ Blk w q 39 #[.slice A l.length c, .int .i64 last, .int .i64 room] ∧ w.ownsRow base 5 1 (.slice A l.length c) l.length (bytesV l) ∧
    base ≤ q ∧ last ≤ l.length ∧ l.length ≤ room ∧ room ≤ 1048576

theorem ref_new (room : Nat) (w : World) (h : room ≤ 1048576) :
    Calls Try.prog 14 #[.int .i64 room] w fun e w' => e = .returned (.tuple #[.pointer (some ⟨w.heap.size, 0, none⟩), .int .i64 0]) ∧ w.alloc (.cells #[.slice none 0 0, .int .i64 0, .int .i64 room] 39) = w' := by
  go_enter Try.func14, Try.ntmps14
  go_wp2
  go_ret2
  exact ⟨rfl, rfl⟩
theorem ref_bad (room : Int) (w : World) (h : room < 0 ∨ 1048576 < room) :
    Calls Try.prog 14 #[.int .i64 room] w fun e w' => e = .returned (.tuple #[.pointer none, .int .i64 1]) ∧ w = w' := by
  rcases h with h | h
  · go_enter Try.func14, Try.ntmps14
    go_wp2
    go_ret2
    exact ⟨rfl, rfl⟩
  · have h0 : ¬ room < 0 := by omega
    go_enter Try.func14, Try.ntmps14
    go_wp2
    go_ret2
    exact ⟨rfl, rfl⟩
theorem Ref.made (w : World) (base room : Nat) (hb : base ≤ w.heap.size) (h : room ≤ 1048576) : Ref (w.alloc (.cells #[.slice none 0 0, .int .i64 0, .int .i64 room] 39)) w.heap.size base none [] 0 room :=
  ⟨none, 0, rfl, Blk.made _ _ _, World.ownsRow_nil _ _ _ _, hb, Nat.le_refl _, Nat.zero_le _, h⟩

theorem ref_full (A : Option Addr) (c q base last room : Nat) (r : Option Nat) (l : List UInt8) (n : Nat) (w : World) (hd : Ref w q base r l last room) (hm : n ≤ 1000000) (h : room < l.length + n) :
    Calls Try.prog 22 #[.pointer (some ⟨q, 0, none⟩), .slice A n c] w fun e w' => e = .returned (.int .i64 90) ∧ ∃ k, w' = w.drewN k := by
  obtain ⟨Ah, ch, _, hb, ho, _, h1, h2, h3⟩ := hd
  have c0 := hb.cell 0
  have c2 := hb.cell 2
  simp at c0 c2
  clear hb ho
  have hs : IntKind.i64.wrap ((l.length : Int) + (n : Int)) = (l.length : Int) + (n : Int) := IntWalk.i64_in _ (by omega)
  go_enter Try.func22, Try.ntmps22
  go_wp2
  go_quiet (fail)
  clear hs
  go_wp2
  go_ret
  exact ⟨rfl, _, rfl⟩

theorem ref_append (A : Option Addr) (c q base last room : Nat) (r : Option Nat) (l b : List UInt8) (w : World) (B : Nat) (hd : Ref w q base r l last room) (hB : base ≤ w.heap.size) (hBB : B ≤ w.heap.size) (hy : Bytes w B A b) (h : l.length + b.length ≤ room) :
    Calls Try.prog 22 #[.pointer (some ⟨q, 0, none⟩), .slice A b.length c] w fun e w' => e = .returned (.int .i64 0) ∧ ∃ r', Ref w' q base r' (l ++ b) last room ∧ Moves w w' q r ∧ Later w r r' := by
  obtain ⟨i0, hi0, hz0, hz1, hz2⟩ := info_parts Try.info5
  obtain ⟨Ah, ch, rfl, hb, ho, hq, h1, h2, h3⟩ := hd
  have c0 := hb.cell 0
  have c2 := hb.cell 2
  have f0 := hb.free 0
  simp at c0 c2
  have hs : IntKind.i64.wrap ((l.length : Int) + (b.length : Int)) = (l.length : Int) + (b.length : Int) := IntWalk.i64_in _ (by omega)
  go_enter Try.func22, Try.ntmps22
  go_wp2
  go_quiet (fail)
  clear hs
  have c3 := (Blk.alloc (w := w.drewN nq) hb (.cells #[] 5)).cell 0
  rw [show (#[Value.slice Ah l.length ch, .int .i64 last, .int .i64 room] : Array Value)[0]? = some (.slice Ah l.length ch) from rfl] at c3
  have hown := World.ownsRow_made (e := 5) (size := 1) (w.drewN nq) #[] 0 (Nat.le_refl _) (Nat.zero_le _) rfl
  go_wp2_with (at_builtin; first
    | (refine wpList_append_from _ rfl (.tmp 19) (.tmp 23) 23 rfl w.heap.size 5 i0 _ 1 Try.underlying23 hi0 hz0 hz1 hz2 rfl _ 0 [] rfl hown w.heap.size Ah l.length ch (bytesV l) rfl (bytesV_length l) (((Lies.of_own ho).drewN nq).alloc (Nat.le_refl _) _) (bytesV_one l) (by unfold maxLen; omega) (by omega) (by simp) ?_; intro A1 c1 w1 hown1 hgrow1 hat1; have hb1 := ((Below.refl w.heap.size (w.drewN nq)).alloc (Nat.le_refl _) (.cells #[] 5)).trans (below_append hown hgrow1 (Nat.le_refl _) (by simp)); simp only [Nat.zero_add, List.nil_append] at hown1)
    | (refine wpList_append_from _ rfl (.tmp 24) (.tmp 25) 23 rfl w.heap.size 5 i0 _ 1 Try.underlying23 hi0 hz0 hz1 hz2 rfl _ l.length (bytesV l) rfl hown1 B A b.length c (bytesV b) rfl (bytesV_length b) ((hy.drewN nq).below (hb1.mono hBB)) (bytesV_one b) (by unfold maxLen; omega) (by omega) hb1.size ?_; intro A2 c2 w2 hown2 hgrow2 hat2; have hb2 := hb1.trans (below_append hown1 hgrow2 (Nat.le_refl _) hb1.size); have hbq := Blk.below (w := w.drewN nq) hb hb2 hb.lt; have d0 := hbq.cell 0; have f2 := hbq.free 0; simp at d0))
  go_ret
  have hown2' : w2.ownsRow w.heap.size 5 1 (.slice A2 (l ++ b).length c2) (l ++ b).length (bytesV (l ++ b)) := by rw [List.length_append, bytesV_append]; exact hown2
  rw [← List.length_append]
  refine ⟨rfl, (Value.slice A2 (l ++ b).length c2).ownBlock, ⟨A2, c2, rfl, by simpa using hbq.put 0 (.slice A2 (l ++ b).length c2), own_far (own_mono hown2' hB) (p := ⟨q, 0, none⟩) (Blk.ne_own hbq hown2' (by decide)) _, hq, by rw [List.length_append]; omega, by rw [List.length_append]; omega, h3⟩, ?_, ?_⟩
  · exact (Moves.of_below (w := w) ⟨hb2.os, hb2.tape, hb2.output, hb2.size, hb2.block⟩).put 0 _
  · cases hA : (Value.slice A2 (l ++ b).length c2).ownBlock with
    | none => exact .inl rfl
    | some k => exact .inr (.inr ⟨k, rfl, (hown2'.lt k hA).1⟩)

theorem ref_sync (q base last room : Nat) (r : Option Nat) (l : List UInt8) (w : World) (hd : Ref w q base r l last room) :
    Calls Try.prog 23 #[.pointer (some ⟨q, 0, none⟩)] w fun e w' => e = .returned (.int .i64 0) ∧ Ref w' q base r l l.length room ∧ Moves w w' q r := by
  obtain ⟨Ah, ch, rfl, hb, ho, hq, h1, h2, h3⟩ := hd
  have c0 := hb.cell 0
  have c1 := hb.cell 1
  have f1 := hb.free 1
  simp at c0 c1
  go_enter Try.func23, Try.ntmps23
  go_wp2
  go_ret
  exact ⟨rfl, ⟨Ah, ch, rfl, by simpa using hb.put 1 (.int .i64 l.length), own_far ho (p := ⟨q, 1, none⟩) (Blk.ne_own hb ho (by decide)) _, hq, Nat.le_refl _, h2, h3⟩, (Moves.refl w q _).put 1 _⟩

theorem ref_cut_bad (q base last room : Nat) (r : Option Nat) (l : List UInt8) (n : Int) (w : World) (hd : Ref w q base r l last room) (h : n < 0 ∨ (l.length : Int) < n) :
    Calls Try.prog 24 #[.pointer (some ⟨q, 0, none⟩), .int .i64 n] w fun e w' => e = .returned (.int .i64 1) ∧ w = w' := by
  obtain ⟨Ah, ch, rfl, hb, ho, hq, h1, h2, h3⟩ := hd
  have c0 := hb.cell 0
  simp at c0
  rcases (show n < 0 ∨ (0 ≤ n ∧ (l.length : Int) < n) by omega) with h | ⟨h, h'⟩
  · go_enter Try.func24, Try.ntmps24
    go_wp2
    go_ret
    exact ⟨rfl, rfl⟩
  · go_enter Try.func24, Try.ntmps24
    go_wp2
    go_ret
    exact ⟨rfl, rfl⟩

/-- What a copy of a cut of the row leaves. -/
theorem Ref.of_copy {w w2 : World} {q base room n c2 : Nat} {A2 : Option Addr} {l : List UInt8} {u v : Value} (hl : l.length = n) (hb : Below w.heap.size w w2) (hB : base ≤ w.heap.size) (hq : base ≤ q) (hn : n ≤ room) (h3 : room ≤ 1048576)
    (hbq : Blk w2 q 39 #[u, v, .int .i64 room]) (ho : w2.ownsRow w.heap.size 5 1 (.slice A2 n c2) n (bytesV l)) (r : Option Nat) :
    ∃ r', Ref ((w2.setCell ⟨q, 0, none⟩ (.slice A2 n c2)).setCell ⟨q, 1, none⟩ (.int .i64 n)) q base r' l n room ∧ Moves w ((w2.setCell ⟨q, 0, none⟩ (.slice A2 n c2)).setCell ⟨q, 1, none⟩ (.int .i64 n)) q r ∧ Later w r r' := by
  subst hl
  have h1 := hbq.put 0 (.slice A2 l.length c2)
  have h2 := h1.put 1 (.int .i64 l.length)
  have o1 := own_far (own_mono ho hB) (p := ⟨q, 0, none⟩) (Blk.ne_own hbq ho (by decide)) (.slice A2 l.length c2)
  have o2 := own_far o1 (p := ⟨q, 1, none⟩) (Blk.ne_own h1 o1 (by decide)) (.int .i64 l.length)
  refine ⟨_, ⟨A2, c2, rfl, by simpa using h2, o2, hq, Nat.le_refl _, hn, h3⟩, ((Moves.of_below (w := w) hb).put 0 _).put 1 _, ?_⟩
  cases hA : (Value.slice A2 l.length c2).ownBlock with
  | none => exact .inl rfl
  | some k => exact .inr (.inr ⟨k, rfl, (ho.lt k hA).1⟩)

theorem ref_cut (q base last room : Nat) (r : Option Nat) (l : List UInt8) (n : Nat) (w : World) (hd : Ref w q base r l last room) (hB : base ≤ w.heap.size) (h : n ≤ l.length) :
    Calls Try.prog 24 #[.pointer (some ⟨q, 0, none⟩), .int .i64 n] w fun e w' => e = .returned (.int .i64 0) ∧ ∃ r', Ref w' q base r' (l.take n) n room ∧ Moves w w' q r ∧ Later w r r' := by
  obtain ⟨i0, hi0, hz0, hz1, hz2⟩ := info_parts Try.info5
  obtain ⟨Ah, ch, rfl, hb, ho, hq, h1, h2, h3⟩ := hd
  have c0 := hb.cell 0
  have c3 := (Blk.alloc (w := w) hb (.cells #[] 5)).cell 0
  rw [show (#[Value.slice Ah l.length ch, .int .i64 last, .int .i64 room] : Array Value)[0]? = some (.slice Ah l.length ch) from rfl] at c3
  have hcap := own_cap ho
  simp at c0
  have hown := World.ownsRow_made (e := 5) (size := 1) w #[] 0 (Nat.le_refl _) (Nat.zero_le _) rfl
  have hlen : (l.take n).length = n := by rw [List.length_take]; omega
  have hH := Lib.hid hlen
  have hcut : Bytes w w.heap.size Ah (l.take n) := by have := Lies.of_own (own_cut ho h); rwa [show (bytesV l).take n = bytesV (l.take n) by simp [bytesV, List.map_take]] at this
  clear hlen
  go_enter Try.func24, Try.ntmps24
  go_wp2_with (at_builtin; (refine wpList_append_from _ rfl (.tmp 17) (.tmp 23) 23 rfl w.heap.size 5 i0 _ 1 Try.underlying23 hi0 hz0 hz1 hz2 rfl _ 0 [] rfl hown w.heap.size Ah n ch (bytesV (l.take n)) rfl (by rw [bytesV_length]; exact hH.out) (hcut.alloc (Nat.le_refl _) _) (bytesV_one _) (by unfold maxLen; omega) (by omega) (by simp) ?_; intro A1 c1 w1 hown1 hgrow1 hat1; have hb1 := ((Below.refl w.heap.size w).alloc (Nat.le_refl _) (.cells #[] 5)).trans (below_append hown hgrow1 (Nat.le_refl _) (by simp)); simp only [Nat.zero_add, List.nil_append] at hown1; have hbq := Blk.below (w := w) hb hb1 hb.lt; have d0 := hbq.cell 0; have f0 := hbq.free 0; have d1 := hbq.cell 1; have f1 := hbq.free 1; simp at d0 d1))
  go_ret
  exact ⟨rfl, Ref.of_copy hH.out hb1 hB hq (by omega) h3 hbq hown1 _⟩

theorem ref_swap_full (A : Option Addr) (c q base last room : Nat) (r : Option Nat) (l : List UInt8) (n : Nat) (w : World) (hd : Ref w q base r l last room) (h : room < n) :
    Calls Try.prog 25 #[.pointer (some ⟨q, 0, none⟩), .slice A n c] w fun e w' => e = .returned (.int .i64 90) ∧ w = w' := by
  obtain ⟨Ah, ch, _, hb, ho, _, h1, h2, h3⟩ := hd
  have c2 := hb.cell 2
  simp at c2
  clear hb ho
  go_enter Try.func25, Try.ntmps25
  go_wp2
  go_ret
  exact ⟨rfl, rfl⟩
theorem ref_swap (A : Option Addr) (c q base last room : Nat) (r : Option Nat) (l b : List UInt8) (w : World) (B : Nat) (hd : Ref w q base r l last room) (hB : base ≤ w.heap.size) (hBB : B ≤ w.heap.size) (hy : Bytes w B A b) (h : b.length ≤ room) :
    Calls Try.prog 25 #[.pointer (some ⟨q, 0, none⟩), .slice A b.length c] w fun e w' => e = .returned (.int .i64 0) ∧ ∃ r', Ref w' q base r' b b.length room ∧ Moves w w' q r ∧ Later w r r' := by
  obtain ⟨i0, hi0, hz0, hz1, hz2⟩ := info_parts Try.info5
  obtain ⟨Ah, ch, rfl, hb, ho, hq, h1, h2, h3⟩ := hd
  have c2 := hb.cell 2
  simp at c2
  have hown := World.ownsRow_made (e := 5) (size := 1) w #[] 0 (Nat.le_refl _) (Nat.zero_le _) rfl
  go_enter Try.func25, Try.ntmps25
  go_wp2_with (at_builtin; (refine wpList_append_from _ rfl (.tmp 13) (.tmp 14) 23 rfl w.heap.size 5 i0 _ 1 Try.underlying23 hi0 hz0 hz1 hz2 rfl _ 0 [] rfl hown B A b.length c (bytesV b) rfl (bytesV_length b) (hy.alloc hBB _) (bytesV_one _) (by unfold maxLen; omega) (by omega) (by simp) ?_; intro A1 c1 w1 hown1 hgrow1 hat1; have hb1 := ((Below.refl w.heap.size w).alloc (Nat.le_refl _) (.cells #[] 5)).trans (below_append hown hgrow1 (Nat.le_refl _) (by simp)); simp only [Nat.zero_add, List.nil_append] at hown1; have hbq := Blk.below (w := w) hb hb1 hb.lt; have d0 := hbq.cell 0; have f0 := hbq.free 0; have d1 := hbq.cell 1; have f1 := hbq.free 1; simp at d0 d1))
  go_ret
  exact ⟨rfl, Ref.of_copy rfl hb1 hB hq h h3 hbq hown1 _⟩
end Go.Proofs.Ytjbdnogonfnjkaa
