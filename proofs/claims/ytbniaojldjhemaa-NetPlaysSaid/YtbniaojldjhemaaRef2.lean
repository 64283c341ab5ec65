/- The reference net in memory: how it stands behind changes of its own block, and of others. Plain lemmas. -/
import Derived.Test.YtbniaojldjhemaaRef
namespace Go.Proofs.Ytbniaojldjhemaa
open Go.Conc Go.RowKit Go.Maps

theorem own_grown {w w' : World} {base base' e e' n m : Nat} {v u : Value} {xs ys : List Value} (h : w.ownsRow base e 1 v n xs) (k : w.ownsRow base' e' 1 u m ys) (hne : e ≠ e') (g : w.grownBy w' u.ownBlock) : w'.ownsRow base e 1 v n xs := by
  refine ⟨h.1, ?_⟩
  rcases h.2 with hn | ⟨b, cap, cur, hv, hg, hh, rest⟩
  · exact .inl hn
  · refine .inr ⟨b, cap, cur, hv, hg, (g.block b (Array.getElem?_eq_some_iff.1 hh).1 ?_).trans hh, rest⟩
    exact Blk.ne_own (cs := cur) hh k (Ne.symm hne)
theorem grown_below {B : Nat} {w w' : World} (h : Below B w w') (hB : w.heap.size ≤ B) (row : Option Nat) : w.grownBy w' row :=
  ⟨h.os, h.tape, h.output, h.size, fun b hb _ => h.block b (by omega)⟩
theorem grown_set (w : World) (g i : Nat) (u : Value) : w.grownBy (w.setCell ⟨g, i, none⟩ u) (some g) := by
  refine ⟨rfl, rfl, rfl, by simp [World.setCell], fun b hb hne => ?_⟩
  exact Below.heap_setCell w ⟨g, i, none⟩ u b (fun e => hne (by rw [e]))
theorem grown_trans {a b c : World} {q : Nat} (h : a.grownBy b (some q)) (k : b.grownBy c (some q)) : a.grownBy c (some q) :=
  ⟨k.os.trans h.os, k.tape.trans h.tape, k.output.trans h.output, Nat.le_trans h.size k.size, fun i hi hne => (k.block i (Nat.lt_of_lt_of_le hi h.size) hne).trans (h.block i hi hne)⟩

/-- M with another list at one place. -/
def upd (M : Nat → Nat → List (List UInt8)) (f t : Nat) (ls : List (List UInt8)) : Nat → Nat → List (List UInt8) := fun i j => if i = f ∧ j = t then ls else M i j

section
variable {w w' : World} {base qr n : Nat} {p : Nat → Nat} {M : Nat → Nat → List (List UInt8)}
theorem RefAt.cell_slice (h : RefAt w base qr n p M) {k : Nat} {v : Value} (hv : w.cell? ⟨qr, k, none⟩ = some v) : ∃ A m c, v = .slice A m c := by
  obtain ⟨cs, hb, hs⟩ := h.blk
  have hk : k < 257 := by
    rw [hb.cell k] at hv
    have := (Array.getElem?_eq_some_iff.1 hv).1
    omega
  by_cases e : k = 0
  · subst e
    obtain ⟨Ap, cp, h1, _⟩ := h.tree
    rw [h1] at hv
    injection hv with hv
    exact ⟨_, _, _, hv.symm⟩
  · obtain ⟨A, c, h1, _⟩ := h.rows ((k - 1) / 16) ((k - 1) % 16) (by omega) (by omega)
    rw [show 1 + (k - 1) / 16 * 16 + (k - 1) % 16 = k by omega, hv] at h1
    injection h1 with h1
    exact ⟨_, _, _, h1⟩
theorem cell_grown {q : Nat} (g : w.grownBy w' (some q)) {a : Addr} {v : Value} (hq : a.block ≠ q) (hc : w.cell? a = some v) : w'.cell? a = some v := by
  have hlt := World.block_lt_of_cell? w a hc
  rw [World.cell?_of_block (w := w) (w' := w') (a := a) (g.block a.block hlt (fun e => hq (by injection e)))]
  exact hc
/-- Bytes do not lie in the reference's block: they stay while it turns. -/
theorem Lies.off (h : RefAt w base qr n p M) (g : w.grownBy w' (some qr)) {A : Option Addr} {l : List UInt8} (hy : Bytes w w.heap.size A l) : Bytes w' w'.heap.size A l := by
  rcases hy with hy | ⟨b, off, hA, hb, hc⟩
  · exact .inl hy
  · by_cases hl : l = []
    · subst hl
      exact .inl rfl
    · have hne : b ≠ qr := fun e => by
        subst e
        have h0 := hc 0 _ (bytesV_get l (List.length_pos_iff.2 hl))
        obtain ⟨_, _, _, e⟩ := h.cell_slice h0
        cases e
      exact .inr ⟨b, off, hA, Nat.lt_of_lt_of_le hb g.size, fun j u hu => cell_grown g hne (hc j u hu)⟩
theorem TextsOff.off (h : RefAt w base qr n p M) (g : w.grownBy w' (some qr)) {A : Option Addr} {ls : List (List UInt8)} (hT : TextsOff w qr A ls) : TextsOff w' qr A ls := by
  obtain ⟨xs, h1, h2, h3⟩ := hT
  refine ⟨xs, ?_, h2, fun i u t hu ht => ?_⟩
  · rcases h1 with h1 | ⟨b, off, hA, hb, hq, hc⟩
    · exact .inl h1
    · exact .inr ⟨b, off, hA, Nat.lt_of_lt_of_le hb g.size, hq, fun j u hu => cell_grown g hq (hc j u hu)⟩
  · obtain ⟨A', c', e, hy⟩ := h3 i u t hu ht
    exact ⟨A', c', e, hy.off h g⟩
theorem TreeAt.off (h : RefAt w base qr n p M) (g : w.grownBy w' (some qr)) {A : Option Addr} {k : Nat} (hT : TreeAt w w.heap.size A k p) : TreeAt w' w'.heap.size A k p := by
  obtain ⟨h1, h2, hg, b, off, hA, hB, h0, hc⟩ := hT
  have hne : b ≠ qr := fun e => by
    subst e
    obtain ⟨_, _, _, e⟩ := h.cell_slice h0
    cases e
  exact ⟨h1, h2, hg, b, off, hA, Nat.lt_of_lt_of_le hB g.size, cell_grown g hne h0, fun k k1 k2 => cell_grown g hne (hc k k1 k2)⟩
/-- Its own block has turned, and what is new. -/
theorem RefAt.changed (h : RefAt w base qr n p M) (g : w.grownBy w' (some qr)) {M' : Nat → Nat → List (List UInt8)} (hb : ∃ cs, Blk w' qr 67 cs ∧ cs.size = 257) (h0 : w'.cell? ⟨qr, 0, none⟩ = w.cell? ⟨qr, 0, none⟩)
    (hr : ∀ i j, i < 16 → j < 16 → ∃ A c, w'.cell? ⟨qr, 1 + i * 16 + j, none⟩ = some (.slice A (M' i j).length c) ∧ (M' i j).length ≤ c ∧ TextsOff w' qr A (M' i j)) : RefAt w' base qr n p M' := by
  obtain ⟨Ap, cp, h1, h2, h3⟩ := h.tree
  exact ⟨h.lo, ⟨Ap, cp, h0.trans h1, h2, h3.off h g⟩, hb, hr⟩
theorem RefAt.set (h : RefAt w base qr n p M) {f t : Nat} (hf : f < 16) (ht : t < 16) {A : Option Addr} {c : Nat} {ls : List (List UInt8)} (hlc : ls.length ≤ c) (hT : TextsOff w qr A ls) :
    RefAt (w.setCell ⟨qr, 1 + f * 16 + t, none⟩ (.slice A ls.length c)) base qr n p (upd M f t ls) ∧ w.grownBy (w.setCell ⟨qr, 1 + f * 16 + t, none⟩ (.slice A ls.length c)) (some qr) := by
  have g := grown_set w qr (1 + f * 16 + t) (.slice A ls.length c)
  obtain ⟨cs, hb, hs⟩ := h.blk
  have hb' := hb.put (1 + f * 16 + t) (.slice A ls.length c)
  refine ⟨h.changed g ⟨_, hb', by simp [hs]⟩ ?_ fun i j hi hj => ?_, g⟩
  · rw [hb'.cell 0, hb.cell 0, Array.getElem?_setIfInBounds_ne (by omega)]
  · rw [hb'.cell]
    unfold upd
    by_cases e : i = f ∧ j = t
    · obtain ⟨rfl, rfl⟩ := e
      refine ⟨A, c, ?_, ?_, ?_⟩
      · simp only [and_self, if_true]
        rw [Array.getElem?_setIfInBounds_self_of_lt (by omega)]
      · simpa using hlc
      · simpa using hT.off h g
    · obtain ⟨A0, c0, h1, h2, h3⟩ := h.rows i j hi hj
      refine ⟨A0, c0, ?_, ?_, ?_⟩
      · rw [if_neg e, Array.getElem?_setIfInBounds_ne (by omega), ← hb.cell]
        exact h1
      · rw [if_neg e]; exact h2
      · rw [if_neg e]; exact h3.off h g
theorem RefAt.turn (h : RefAt w base qr n p M) (t : Turns w w') : RefAt w' base qr n p M := by
  obtain ⟨Ap, cp, h1, h2, h3, h4, hg, b, off, hA, hB, h0, hc⟩ := h.tree
  obtain ⟨cs, hb, hs⟩ := h.blk
  refine ⟨h.lo, ⟨Ap, cp, t.cell h1, h2, h3, h4, hg, b, off, hA, Nat.lt_of_lt_of_le hB t.size, t.cell h0, fun k k1 k2 => t.cell (hc k k1 k2)⟩, ⟨cs, t.block _ _ hb rfl, hs⟩, fun i j hi hj => ?_⟩
  obtain ⟨A, c, r1, r2, xs, x1, x2, x3⟩ := h.rows i j hi hj
  refine ⟨A, c, t.cell r1, r2, xs, ?_, x2, fun i u s hu hs => ?_⟩
  · rcases x1 with x1 | ⟨b, off, hA, hb, hq, hc⟩
    · exact .inl x1
    · exact .inr ⟨b, off, hA, Nat.lt_of_lt_of_le hb t.size, hq, fun j u hu => t.cell (hc j u hu)⟩
  · obtain ⟨A', c', e, hy⟩ := x3 i u s hu hs
    exact ⟨A', c', e, hy.turn t t.size⟩
theorem RefAt.below (h : RefAt w base qr n p M) (hb : Below w.heap.size w w') : RefAt w' base qr n p M := h.turn (.of_below hb)
theorem RefAt.congr {M' : Nat → Nat → List (List UInt8)} (h : RefAt w base qr n p M) (e : ∀ i j, i < 16 → j < 16 → M i j = M' i j) : RefAt w base qr n p M' :=
  ⟨h.lo, h.tree, h.blk, fun i j hi hj => by rw [← e i j hi hj]; exact h.rows i j hi hj⟩
theorem RefAt.draws (h : RefAt w base qr n p M) (k : Nat) : RefAt (w.drewN k) base qr n p M := ⟨h.lo, h.tree, h.blk, h.rows⟩
/-- The net stays while the reference's block turns. -/
theorem NetAt.off {base' qn B : Nat} {L : List Link} {Q : Nat → List Msg} (hN : NetAt w base' qn B L Q) (h : RefAt w base qr n p M) (g : w.grownBy w' (some qr)) : NetAt w' base' qn B L Q := by
  obtain ⟨cs, hb, _⟩ := h.blk
  have keep : ∀ (b : Nat) (o : Obj), w.heap[b]? = some o → (∀ cs, o ≠ .cells cs 67 (0, 0)) → w'.heap[b]? = some o := fun b o ho hne => by
    refine (g.block b (Array.getElem?_eq_some_iff.1 ho).1 (fun e => ?_)).trans ho
    injection e with e
    unfold Blk at hb
    rw [e, hb] at ho
    injection ho with ho
    exact hne _ ho.symm
  refine ⟨keep _ _ hN.blk (fun cs e => by injection e with _ e; cases e), ?_, hN.fair, hN.apart, hN.lo, fun x hx => ?_⟩
  · obtain ⟨es, h1, h2⟩ := hN.map
    exact ⟨es, keep _ _ h1 (fun cs e => by cases e), h2⟩
  · obtain ⟨⟨s, r, hc⟩, hm⟩ := hN.q x hx
    exact ⟨⟨s, r, keep _ _ hc (fun cs e => by cases e)⟩, fun m hm' => (hm m hm').off h g⟩
end
end Go.Proofs.Ytbniaojldjhemaa
