/- A net in memory; the walks of link, Send, Take, Drop, Turn, Long from what its links hold to what they hold behind the call. -/
import Derived.Test.YtbniaojldjhemaaLinks
import Derived.Deep.QuietTactic
import Derived.BigQuiet
import Derived.Conc.LoneSelectN
namespace Go.Proofs.Ytbniaojldjhemaa
open Go.Conc Go.RowKit Go.Maps

theorem Try.info5 : (Try.prog.info? 5).map (fun i => (i.zero, i.size, i.bytes)) = some (some (.int .u8 0), 1, 1) := by kernel_rfl

def isChan : Obj → Bool
  | .chan .. => true
  | _ => false
/-- Only channels have turned, and what is new. -/
structure Turns (w w' : World) : Prop where
  size : w.heap.size ≤ w'.heap.size
  block : ∀ (b : Nat) (o : Obj), w.heap[b]? = some o → isChan o = false → w'.heap[b]? = some o
theorem Turns.refl (w : World) : Turns w w := ⟨Nat.le_refl _, fun _ _ h _ => h⟩
theorem Turns.trans {a b c : World} (h : Turns a b) (k : Turns b c) : Turns a c := ⟨Nat.le_trans h.size k.size, fun x o hx ho => k.block x o (h.block x o hx ho) ho⟩
theorem Turns.of_below {a b : World} (h : Below a.heap.size a b) : Turns a b := ⟨h.size, fun x _ hx _ => (h.block x (Array.getElem?_eq_some_iff.1 hx).1).trans hx⟩
theorem Turns.draws {a b : World} (h : Turns a b) (k : Nat) : Turns a (b.drewN k) := ⟨h.size, h.block⟩
theorem Turns.setChan {w : World} {c cap : Nat} {buf : Array Value} {cl : Bool} {s r : Nat} {tm : Bool} {o : Obj} (h : w.heap[c]? = some o) (ho : isChan o = true) : Turns w (w.setChan c cap buf cl s r tm) := by
  refine ⟨by simp [World.setChan], fun b o' hb ho' => ?_⟩
  have hne : c ≠ b := fun e => by
    rw [e, hb] at h
    injection h with h
    rw [h, ho] at ho'
    cases ho'
  simp [World.setChan, Array.getElem?_setIfInBounds_ne hne, hb]
theorem Turns.cell {w w' : World} (h : Turns w w') {a : Addr} {v : Value} (hc : w.cell? a = some v) : w'.cell? a = some v := by
  have hlt := World.block_lt_of_cell? w a hc
  have hb : w.heap[a.block]? = some w.heap[a.block] := Array.getElem?_eq_getElem hlt
  have hnc : isChan w.heap[a.block] = false := by
    cases ho : w.heap[a.block] with
    | chan cap buf cl s r tm =>
      exfalso
      rw [ho] at hb
      unfold World.cell? at hc
      simp [hb] at hc
    | _ => rfl
  have hk := h.block _ _ hb hnc
  rw [World.cell?_of_block (w := w) (w' := w') (a := a) (hk.trans hb.symm)]
  exact hc
theorem Lies.turn {w w' : World} {B B' : Nat} {A : Option Addr} {xs : List Value} (h : Lies w B A xs) (ht : Turns w w') (hB : B ≤ B') : Lies w' B' A xs := by
  rcases h with h | ⟨b, off, hA, hb, hc⟩
  · exact .inl h
  · exact .inr ⟨b, off, hA, by omega, fun j u hu => ht.cell (hc j u hu)⟩

/-- A message: a slice of bytes. -/
structure Msg where
  A : Option Addr
  c : Nat
  l : List UInt8
def Msg.val (m : Msg) : Value := .slice m.A m.l.length m.c
/-- A link's channel holds these. -/
def QueueAt (w : World) (c : Nat) (q : List Msg) : Prop := (∃ s r, ChanAt w c (q.map Msg.val).toArray s r) ∧ ∀ m ∈ q, Bytes w w.heap.size m.A m.l
/-- A net at block qn: its map, its links, what each link's channel holds. -/
structure NetAt (w : World) (base qn B : Nat) (L : List Link) (Q : Nat → List Msg) : Prop where
  blk : Blk w qn 53 #[.map (some B)]
  map : MapAt w B L
  fair : Fair L
  apart : ∀ x ∈ L, ∀ y ∈ L, x.c = y.c → x = y
  lo : base ≤ qn ∧ base ≤ B ∧ ∀ x ∈ L, base ≤ x.c
  q : ∀ x ∈ L, QueueAt w x.c (Q x.c)
section
variable {w w' : World} {base qn B : Nat} {L : List Link} {Q : Nat → List Msg}
theorem QueueAt.below {c : Nat} {q : List Msg} (h : QueueAt w c q) (hb : Below w.heap.size w w') : QueueAt w' c q := by
  obtain ⟨⟨s, r, hc⟩, hm⟩ := h
  exact ⟨⟨s, r, (hb.block c (Array.getElem?_eq_some_iff.1 hc).1).trans hc⟩, fun m hq => (hm m hq).turn (.of_below hb) hb.size⟩
theorem NetAt.below (h : NetAt w base qn B L Q) (hb : Below w.heap.size w w') : NetAt w' base qn B L Q := by
  have hlt : B < w.heap.size := by
    obtain ⟨es, h1, _⟩ := h.map
    exact (Array.getElem?_eq_some_iff.1 h1).1
  exact ⟨h.blk.below hb h.blk.lt, h.map.kept (hb.block B hlt), h.fair, h.apart, h.lo, fun x hx => (h.q x hx).below hb⟩
theorem NetAt.draws (h : NetAt w base qn B L Q) (k : Nat) : NetAt (w.drewN k) base qn B L Q := ⟨h.blk, h.map, h.fair, h.apart, h.lo, h.q⟩
/-- One link's channel has turned. -/
theorem NetAt.turn (h : NetAt w base qn B L Q) {x : Link} (hx : x ∈ L) (q' : List Msg) (s r : Nat) (hq : ∀ m ∈ q', Bytes w w.heap.size m.A m.l) :
    NetAt (w.setChan x.c 8 (q'.map Msg.val).toArray false s r false) base qn B L (fun c => if c = x.c then q' else Q c) ∧ Turns w (w.setChan x.c 8 (q'.map Msg.val).toArray false s r false) ∧ Below base w (w.setChan x.c 8 (q'.map Msg.val).toArray false s r false) := by
  obtain ⟨⟨s0, r0, hc⟩, _⟩ := h.q x hx
  have ht : Turns w (w.setChan x.c 8 (q'.map Msg.val).toArray false s r false) := Turns.setChan hc rfl
  have hlt : x.c < w.heap.size := (Array.getElem?_eq_some_iff.1 hc).1
  have hsz : (w.setChan x.c 8 (q'.map Msg.val).toArray false s r false).heap.size = w.heap.size := size_setChan _ _ _ _ _ _ _ _
  refine ⟨⟨ht.block _ _ h.blk rfl, ?_, h.fair, h.apart, h.lo, fun y hy => ?_⟩, ht, below_setChan (Below.refl base w) (h.lo.2.2 x hx) _ _ _ _ _ _⟩
  · obtain ⟨es, h1, h2⟩ := h.map
    exact ⟨es, ht.block _ _ h1 rfl, h2⟩
  · by_cases e : y.c = x.c
    · rw [if_pos e, e]
      exact ⟨⟨s, r, heap_setChan _ _ _ _ _ _ _ _ hlt⟩, fun m hm => (hq m hm).turn ht (by rw [hsz]; exact Nat.le_refl _)⟩
    · rw [if_neg e]
      obtain ⟨⟨s1, r1, hc1⟩, hm1⟩ := h.q y hy
      refine ⟨⟨s1, r1, ?_⟩, fun m hm => (hm1 m hm).turn ht (by rw [hsz]; exact Nat.le_refl _)⟩
      unfold ChanAt
      simp only [World.setChan]
      rw [Array.getElem?_setIfInBounds_ne (Ne.symm e)]
      exact hc1
end

theorem clone_any (A : Option Addr) (c B : Nat) (l : List UInt8) (w : World) (h : Bytes w B A l) (hB : B ≤ w.heap.size) (hm : l.length ≤ 1048576) :
    Calls Try.prog 26 #[.slice A l.length c] w fun e w' => ∃ A' c', e = .returned (.slice A' l.length c') ∧ w'.ownsRow w.heap.size 5 1 (.slice A' l.length c') l.length (bytesV l) ∧ Below w.heap.size w w' := by
  obtain ⟨i0, hi0, hz0, hz1, hz2⟩ := info_parts Try.info5
  cases A with
  | none =>
    have hl : l = [] := by
      rcases h with h | ⟨b, off, hA, _⟩
      · cases l with
        | nil => rfl
        | cons x l => simp [bytesV] at h
      · cases hA
    subst hl
    have hn := Lib.run_eql_slice_nil (P := Try.prog) w 24 5 none 0 c 0 0 Try.underlying24
    go_enter Try.func26, Try.ntmps26
    go_wp2
    go_ret
    exact ⟨none, 0, rfl, World.ownsRow_nil _ _ _ _, Below.refl _ _⟩
  | some a =>
    have hn := Lib.run_eql_slice_nil (P := Try.prog) w 24 5 (some a) l.length c 0 0 Try.underlying24
    have hown := World.ownsRow_made (e := 5) (size := 1) w #[] 0 (Nat.le_refl _) (Nat.zero_le _) rfl
    go_enter Try.func26, Try.ntmps26
    go_wp2_with (at_builtin; refine wpList_append_from _ rfl (.tmp 5) (.tmp 6) 24 rfl w.heap.size 5 i0 _ 1 Try.underlying24 hi0 hz0 hz1 hz2 rfl _ 0 [] rfl hown B (some a) l.length c (bytesV l) rfl (bytesV_length l) (h.alloc hB _) (bytesV_one l) (by unfold maxLen; omega) (by omega) (by simp) ?_; intro A1 c1 w1 hown1 hgrow1 hat1)
    have hb1 := ((Below.refl w.heap.size w).alloc (Nat.le_refl _) (.cells #[] 5)).trans (below_append hown hgrow1 (Nat.le_refl _) (by simp))
    simp only [Nat.zero_add, List.nil_append] at hown1
    go_ret
    exact ⟨_, _, rfl, hown1, hb1⟩

theorem link_nil (f t : Int) (w : World) : Calls Try.prog 24 #[.pointer none, .int .i64 f, .int .i64 t] w fun e w' => e = .returned (.tuple #[.chan none, .int .i64 1]) ∧ w = w' := by
  go_enter Try.func24, Try.ntmps24
  go_wp2
  go_ret2
  exact ⟨rfl, rfl⟩
section
variable (w : World) (base qn B : Nat) (L : List Link) (Q : Nat → List Msg) (h : NetAt w base qn B L Q)
include h
theorem link_in (x : Link) (hx : x ∈ L) : Calls Try.prog 24 #[.pointer (some ⟨qn, 0, none⟩), .int .i64 x.f, .int .i64 x.t] w fun e w' => e = .returned (.tuple #[.chan (some x.c), .int .i64 0]) ∧ w = w' := by
  have c0 := h.blk.cell 0
  simp at c0
  have hl := lookup_in h.map h.fair hx
  unfold keyV at hl
  go_enter Try.func24, Try.ntmps24
  go_wp2
  go_ret2
  exact ⟨rfl, rfl⟩
theorem link_out (f t : Int) (hf : (Lit.int .i64 f).wf = true) (ht : (Lit.int .i64 t).wf = true) (hno : ∀ x ∈ L, ¬ (x.f = f ∧ x.t = t)) : Calls Try.prog 24 #[.pointer (some ⟨qn, 0, none⟩), .int .i64 f, .int .i64 t] w fun e w' => e = .returned (.tuple #[.chan none, .int .i64 140]) ∧ w = w' := by
  have c0 := h.blk.cell 0
  simp at c0
  have hl := lookup_out h.map h.fair hf ht hno
  unfold keyV at hl
  clear hno
  go_enter Try.func24, Try.ntmps24
  go_wp2
  go_ret2
  exact ⟨rfl, rfl⟩

theorem long_in (x : Link) (hx : x ∈ L) : Calls Try.prog 14 #[.pointer (some ⟨qn, 0, none⟩), .int .i64 x.f, .int .i64 x.t] w fun e w' => e = .returned (.int .i64 (Q x.c).length) ∧ w = w' := by
  obtain ⟨⟨s, r, hc⟩, _⟩ := h.q x hx
  have hlen := fun ty => run_len_chan (P := Try.prog) 55 ty Try.underlying55 hc
  simp only [List.size_toArray, List.length_map] at hlen
  go_enter Try.func14, Try.ntmps14
  go_wp2_with fail
  refine (link_in w base qn B L Q h x hx).mono ?_
  rintro e w1 ⟨rfl, rfl⟩
  go_wp2
  go_ret
  exact ⟨rfl, rfl⟩
theorem long_out (f t : Int) (hf : (Lit.int .i64 f).wf = true) (ht : (Lit.int .i64 t).wf = true) (hno : ∀ x ∈ L, ¬ (x.f = f ∧ x.t = t)) : Calls Try.prog 14 #[.pointer (some ⟨qn, 0, none⟩), .int .i64 f, .int .i64 t] w fun e w' => e = .returned (.int .i64 0) ∧ w = w' := by
  have HNO := Lib.hid hno
  clear hno
  go_enter Try.func14, Try.ntmps14
  go_wp2_with fail
  refine (link_out w base qn B L Q h f t hf ht HNO.out).mono ?_
  rintro e w1 ⟨rfl, rfl⟩
  go_wp2
  go_ret
  exact ⟨rfl, rfl⟩

theorem send_out (f t : Int) (v : Value) (hf : (Lit.int .i64 f).wf = true) (ht : (Lit.int .i64 t).wf = true) (hno : ∀ x ∈ L, ¬ (x.f = f ∧ x.t = t)) : Calls Try.prog 13 #[.pointer (some ⟨qn, 0, none⟩), .int .i64 f, .int .i64 t, v] w fun e w' => e = .returned (.int .i64 140) ∧ w = w' := by
  have HNO := Lib.hid hno
  clear hno
  go_enter Try.func13, Try.ntmps13
  go_wp2_with fail
  refine (link_out w base qn B L Q h f t hf ht HNO.out).mono ?_
  rintro e w1 ⟨rfl, rfl⟩
  go_wp2
  go_ret
  exact ⟨rfl, rfl⟩
/-- Send where there is room: a copy of its own lies behind the others. -/
theorem send_room (x : Link) (hx : x ∈ L) (A : Option Addr) (c Bb : Nat) (b : List UInt8) (hy : Bytes w Bb A b) (hB : Bb ≤ w.heap.size) (hbase : base ≤ w.heap.size) (hm : b.length ≤ 1000000) (hq : (Q x.c).length < 8) :
    Calls Try.prog 13 #[.pointer (some ⟨qn, 0, none⟩), .int .i64 x.f, .int .i64 x.t, .slice A b.length c] w fun e w' => e = .returned (.int .i64 0) ∧ ∃ m : Msg, m.l = b ∧ w'.ownsRow w.heap.size 5 1 m.val b.length (bytesV b) ∧
      NetAt w' base qn B L (fun k => if k = x.c then Q x.c ++ [m] else Q k) ∧ Turns w w' ∧ Below base w w' := by
  go_enter Try.func13, Try.ntmps13
  go_wp2_with fail
  refine (link_in w base qn B L Q h x hx).mono ?_
  rintro e w1 ⟨rfl, rfl⟩
  go_wp2_with fail
  refine (clone_any A c Bb b w hy hB (by omega)).mono ?_
  rintro e w2 ⟨A2, c2, rfl, ho2, hb2⟩
  have h2 := h.below hb2
  obtain ⟨⟨s, r, hc⟩, hms⟩ := h2.q x hx
  go_wp2_with fail
  refine (put_list x.c ((Q x.c).map Msg.val) s r _ w2 hc (by rw [List.length_map]; exact hq)).mono ?_
  rintro e w3 ⟨rfl, rfl⟩
  go_wp2
  go_ret
  have hq' : ((Q x.c).map Msg.val ++ [Value.slice A2 b.length c2]).toArray = ((Q x.c ++ [(⟨A2, c2, b⟩ : Msg)]).map Msg.val).toArray := by simp [Msg.val]
  obtain ⟨t1, t2, t3⟩ := h2.turn hx (Q x.c ++ [(⟨A2, c2, b⟩ : Msg)]) (s + 1) r (fun m hm => by
    rcases List.mem_append.1 hm with hm | hm
    · exact hms m hm
    · rw [List.mem_singleton] at hm
      subst hm
      exact Lies.of_own ho2)
  rw [hq']
  refine ⟨rfl, ⟨A2, c2, b⟩, rfl, ?_, t1, (Turns.of_below hb2).trans t2, (hb2.mono hbase).trans t3⟩
  refine ⟨ho2.1, ?_⟩
  rcases ho2.2 with hn | ⟨g, cap, cur, hv, hg, hh, rest⟩
  · exact .inl hn
  · exact .inr ⟨g, cap, cur, hv, hg, t2.block _ _ hh rfl, rest⟩
theorem send_full (x : Link) (hx : x ∈ L) (A : Option Addr) (c Bb : Nat) (b : List UInt8) (hy : Bytes w Bb A b) (hB : Bb ≤ w.heap.size) (hm : b.length ≤ 1000000) (hq : 8 ≤ (Q x.c).length) :
    Calls Try.prog 13 #[.pointer (some ⟨qn, 0, none⟩), .int .i64 x.f, .int .i64 x.t, .slice A b.length c] w fun e w' => e = .returned (.int .i64 141) ∧ NetAt w' base qn B L Q ∧ Below w.heap.size w w' := by
  go_enter Try.func13, Try.ntmps13
  go_wp2_with fail
  refine (link_in w base qn B L Q h x hx).mono ?_
  rintro e w1 ⟨rfl, rfl⟩
  go_wp2_with fail
  refine (clone_any A c Bb b w hy hB (by omega)).mono ?_
  rintro e w2 ⟨A2, c2, rfl, ho2, hb2⟩
  have h2 := h.below hb2
  obtain ⟨⟨s, r, hc⟩, hms⟩ := h2.q x hx
  go_wp2_with fail
  refine (put_none x.c ((Q x.c).map Msg.val) s r _ w2 hc (by rw [List.length_map]; exact hq)).mono ?_
  rintro e w3 ⟨rfl, rfl⟩
  go_wp2
  go_ret
  exact ⟨rfl, h2, hb2⟩

theorem take_out (f t : Int) (hf : (Lit.int .i64 f).wf = true) (ht : (Lit.int .i64 t).wf = true) (hno : ∀ x ∈ L, ¬ (x.f = f ∧ x.t = t)) : Calls Try.prog 15 #[.pointer (some ⟨qn, 0, none⟩), .int .i64 f, .int .i64 t] w fun e w' => e = .returned (.tuple #[.slice none 0 0, .int .i64 140]) ∧ w = w' := by
  have HNO := Lib.hid hno
  clear hno
  go_enter Try.func15, Try.ntmps15
  go_wp2_with fail
  refine (link_out w base qn B L Q h f t hf ht HNO.out).mono ?_
  rintro e w1 ⟨rfl, rfl⟩
  go_wp2
  go_ret2
  exact ⟨rfl, rfl⟩
theorem take_empty (x : Link) (hx : x ∈ L) (hq : Q x.c = []) : Calls Try.prog 15 #[.pointer (some ⟨qn, 0, none⟩), .int .i64 x.f, .int .i64 x.t] w fun e w' => e = .returned (.tuple #[.slice none 0 0, .int .i64 141]) ∧ w = w' := by
  obtain ⟨⟨s, r, hc⟩, _⟩ := h.q x hx
  rw [hq] at hc
  have HQ := Lib.hid hq
  clear hq
  go_enter Try.func15, Try.ntmps15
  go_wp2_with fail
  refine (link_in w base qn B L Q h x hx).mono ?_
  rintro e w1 ⟨rfl, rfl⟩
  go_wp2_with fail
  refine (take_none x.c s r w hc).mono ?_
  rintro e w1 ⟨rfl, rfl⟩
  go_wp2
  go_ret2
  exact ⟨rfl, rfl⟩
theorem take_first (x : Link) (hx : x ∈ L) (m : Msg) (q : List Msg) (hq : Q x.c = m :: q) : Calls Try.prog 15 #[.pointer (some ⟨qn, 0, none⟩), .int .i64 x.f, .int .i64 x.t] w fun e w' => e = .returned (.tuple #[m.val, .int .i64 0]) ∧
    NetAt w' base qn B L (fun k => if k = x.c then q else Q k) ∧ Turns w w' ∧ Below base w w' := by
  obtain ⟨⟨s, r, hc⟩, hms⟩ := h.q x hx
  rw [hq] at hc hms
  have HQ := Lib.hid hq
  clear hq
  go_enter Try.func15, Try.ntmps15
  go_wp2_with fail
  refine (link_in w base qn B L Q h x hx).mono ?_
  rintro e w1 ⟨rfl, rfl⟩
  go_wp2_with fail
  refine (take_list x.c (q.map Msg.val) m.val s r w hc).mono ?_
  rintro e w1 ⟨rfl, rfl⟩
  go_wp2
  go_ret2
  exact ⟨rfl, h.turn hx q s (r + 1) (fun u hu => hms u (List.mem_cons_of_mem _ hu))⟩
end
end Go.Proofs.Ytbniaojldjhemaa
