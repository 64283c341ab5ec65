/- A net whose messages lie in rows of their own, beside a row of slices that grows. Plain lemmas. -/
import Derived.Test.YtbniaojldjhemaaWide
namespace Go.Proofs.Ytbniaojldjhemaa
open Go.Conc Go.RowKit Go.Maps

/-- All these messages lie in rows of the call's own. -/
def Owned (w : World) (base : Nat) (K : List Msg) : Prop := ∀ m ∈ K, w.ownsRow base 5 1 m.val m.l.length (bytesV m.l)

section
variable {w w' : World} {base base' : Nat} {K : List Msg}
theorem own_turned {e n : Nat} {v : Value} {xs : List Value} (h : w.ownsRow base e 1 v n xs) (t : Turns w w') : w'.ownsRow base e 1 v n xs := by
  refine ⟨h.1, ?_⟩
  rcases h.2 with hn | ⟨g, cap, cur, hv, hg, hh, rest⟩
  · exact .inl hn
  · exact .inr ⟨g, cap, cur, hv, hg, t.block _ _ hh rfl, rest⟩
theorem own_grown {e n : Nat} {v : Value} {xs : List Value} {row : Option Nat} (h : w.ownsRow base e 1 v n xs) (hg : w.grownBy w' row) (hne : ∀ g, v.ownBlock = some g → some g ≠ row) : w'.ownsRow base e 1 v n xs := by
  refine ⟨h.1, ?_⟩
  rcases h.2 with hn | ⟨g, cap, cur, rfl, hg', hh, rest⟩
  · exact .inl hn
  · exact .inr ⟨g, cap, cur, rfl, hg', (hg.block g (Array.getElem?_eq_some_iff.1 hh).1 (hne g rfl)).trans hh, rest⟩
theorem Owned.nil (w : World) (base : Nat) : Owned w base [] := fun m hm => by simp at hm
theorem Owned.turn (h : Owned w base K) (t : Turns w w') : Owned w' base K := fun m hm => own_turned (h m hm) t
theorem Owned.below (h : Owned w base K) (hb : Below w.heap.size w w') : Owned w' base K := fun m hm => own_below (h m hm) hb
theorem Owned.add (h : Owned w base K) {m : Msg} (hm : w.ownsRow base' 5 1 m.val m.l.length (bytesV m.l)) (hb : base ≤ base') : Owned w base (K ++ [m]) := fun u hu => by
  rcases List.mem_append.1 hu with hu | hu
  · exact h u hu
  · rw [List.mem_singleton] at hu
    subst hu
    exact own_mono hm hb
theorem Owned.grown {b2 n : Nat} {v : Value} {xs : List Value} (h : Owned w base K) (hg : w.grownBy w' v.ownBlock) (hv : w.ownsRow b2 24 1 v n xs) : Owned w' base K := fun m hm => by
  refine own_grown (h m hm) hg (fun g hgv => ?_)
  rcases own_ne (h m hm) hv (by decide) with hn | hn
  · rw [hn] at hgv
    cases hgv
  · rw [← hgv]
    exact hn
/-- A row of slices grows: the net stays, if its messages lie in rows of their own. -/
theorem NetAt.grown {qn B b2 n : Nat} {L : List Link} {Q : Nat → List Msg} {v : Value} {xs : List Value} (h : NetAt w base qn B L Q) (hg : w.grownBy w' v.ownBlock) (hv : w.ownsRow b2 24 1 v n xs)
    (hm : ∀ x ∈ L, Owned w base' (Q x.c)) : NetAt w' base qn B L Q := by
  have keep : ∀ (b : Nat) (o : Obj), w.heap[b]? = some o → (∀ cs', o ≠ .cells cs' 24 (0, 0)) → w'.heap[b]? = some o := fun b o hb hne => by
    refine (hg.block b (Array.getElem?_eq_some_iff.1 hb).1 (fun e => ?_)).trans hb
    rcases hv.2 with ⟨rfl, _⟩ | ⟨g, cap, cur, rfl, _, hh, _⟩
    · cases e
    · simp only [Value.ownBlock, Option.some.injEq] at e
      rw [e, hh] at hb
      injection hb with hb
      exact hne cur hb.symm
  refine ⟨keep _ _ h.blk (fun cs' e => by injection e with _ e; cases e), ?_, h.fair, h.apart, h.lo, fun x hx => ?_⟩
  · obtain ⟨es, h1, h2⟩ := h.map
    exact ⟨es, keep _ _ h1 (fun cs' e => by cases e), h2⟩
  · obtain ⟨⟨s, r, hc⟩, _⟩ := h.q x hx
    exact ⟨⟨s, r, keep _ _ hc (fun cs' e => by cases e)⟩, fun m hm' => Lies.of_own ((hm x hx).grown hg hv m hm')⟩
end
/-- The values xs read as the texts ls. -/
def Vals (w : World) (B : Nat) (xs : List Value) (ls : List (List UInt8)) : Prop :=
  xs.length = ls.length ∧ ∀ (i : Nat) (u : Value) (p : List UInt8), xs[i]? = some u → ls[i]? = some p → ∃ A' c', u = .slice A' p.length c' ∧ Bytes w B A' p

section
variable {w w' : World} {B B' : Nat} {xs ys : List Value} {ls ms : List (List UInt8)}
theorem Texts.vals {A : Option Addr} (h : Texts w B A ls) : ∃ xs, Lies w B A xs ∧ Vals w B xs ls := by
  obtain ⟨xs, h1, h2, h3⟩ := h
  exact ⟨xs, h1, h2, h3⟩
theorem Vals.texts {A : Option Addr} (h : Vals w B xs ls) (hl : Lies w B A xs) : Texts w B A ls := ⟨xs, hl, h.1, h.2⟩
theorem Vals.nil (w : World) (B : Nat) : Vals w B [] [] := ⟨rfl, fun i u p h => by simp at h⟩
theorem Vals.below (h : Vals w B xs ls) (hb : Below B w w') : Vals w' B xs ls :=
  ⟨h.1, fun i u p hu hp => by
    obtain ⟨A', c', e, hy⟩ := h.2 i u p hu hp
    exact ⟨A', c', e, hy.below hb⟩⟩
theorem Vals.more (h : Vals w B xs ls) (hB : B ≤ B') : Vals w B' xs ls :=
  ⟨h.1, fun i u p hu hp => by
    obtain ⟨A', c', e, hy⟩ := h.2 i u p hu hp
    exact ⟨A', c', e, hy.more hB⟩⟩
theorem Vals.append (h : Vals w B xs ls) (k : Vals w B ys ms) : Vals w B (xs ++ ys) (ls ++ ms) := by
  refine ⟨by rw [List.length_append, List.length_append, h.1, k.1], fun i u p hu hp => ?_⟩
  rw [List.getElem?_append] at hu hp
  rw [h.1] at hu
  by_cases hi : i < ls.length
  · rw [if_pos hi] at hu hp
    exact h.2 i u p hu hp
  · rw [if_neg hi] at hu hp
    exact k.2 _ u p hu hp
theorem Vals.one {A : Option Addr} {p : List UInt8} {c : Nat} (h : Bytes w B A p) : Vals w B [.slice A p.length c] [p] := by
  refine ⟨rfl, fun i u q hu hq => ?_⟩
  cases i with
  | zero =>
    simp only [List.getElem?_cons_zero, Option.some.injEq] at hu hq
    subst hu hq
    exact ⟨A, c, rfl, h⟩
  | succ i => simp at hu
theorem Vals.oneCell (h : Vals w B xs ls) : ∀ u ∈ xs, u.oneCell' = true := by
  intro u hu
  obtain ⟨i, hi, rfl⟩ := List.getElem_of_mem hu
  obtain ⟨A', c', e, _⟩ := h.2 i xs[i] (ls[i]'(by rw [← h.1]; exact hi)) (List.getElem?_eq_getElem hi) (List.getElem?_eq_getElem _)
  rw [e]
  rfl
end


theorem Try.info24 : (Try.prog.info? 24).map (fun i => (i.zero, i.size, i.bytes)) = some (some (.slice none 0 0), 1, 24) := by kernel_rfl
end Go.Proofs.Ytbniaojldjhemaa
