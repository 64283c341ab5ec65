/- Lists of texts that a law gathers in rows of its own. Plain lemmas. -/
import Derived.Test.YtckjjionidaecaaMore
namespace Go.Proofs.Ytckjjionidaecaa
open Go.RowKit

/-- The values xs read as the texts ls. -/
def Vals (w : World) (B : Nat) (xs : List Value) (ls : List (List UInt8)) : Prop :=
  xs.length = ls.length ∧ ∀ (i : Nat) (u : Value) (p : List UInt8), xs[i]? = some u → ls[i]? = some p → ∃ A' c', u = .slice A' p.length c' ∧ Bytes w B A' p

section
variable {w w' : World} {B B' : Nat} {xs ys : List Value} {ls ms : List (List UInt8)}
theorem Texts.vals {A : Option Addr} (h : Texts w B A ls) : ∃ xs, Lies w B A xs ∧ Vals w B xs ls := by
  obtain ⟨xs, h1, h2, h3⟩ := h
  exact ⟨xs, h1, h2, h3⟩
theorem Vals.texts {A : Option Addr} (h : Vals w B xs ls) (hl : Lies w B A xs) : Texts w B A ls := ⟨xs, hl, h.1, h.2⟩
theorem Vals.nil (w : World) (B : Nat) : Vals w B [] [] := ⟨rfl, fun i u p h => by simp at h⟩
theorem Vals.below (h : Vals w B xs ls) (hb : Below B w w') : Vals w' B xs ls :=
  ⟨h.1, fun i u p hu hp => by
    obtain ⟨A', c', e, hy⟩ := h.2 i u p hu hp
    exact ⟨A', c', e, hy.below hb⟩⟩
theorem Vals.more (h : Vals w B xs ls) (hB : B ≤ B') : Vals w B' xs ls :=
  ⟨h.1, fun i u p hu hp => by
    obtain ⟨A', c', e, hy⟩ := h.2 i u p hu hp
    exact ⟨A', c', e, hy.more hB⟩⟩
theorem Vals.append (h : Vals w B xs ls) (k : Vals w B ys ms) : Vals w B (xs ++ ys) (ls ++ ms) := by
  refine ⟨by rw [List.length_append, List.length_append, h.1, k.1], fun i u p hu hp => ?_⟩
  rw [List.getElem?_append] at hu hp
  rw [h.1] at hu
  by_cases hi : i < ls.length
  · rw [if_pos hi] at hu hp
    exact h.2 i u p hu hp
  · rw [if_neg hi] at hu hp
    exact k.2 _ u p hu hp
theorem Vals.one {A : Option Addr} {p : List UInt8} {c : Nat} (h : Bytes w B A p) : Vals w B [.slice A p.length c] [p] := by
  refine ⟨rfl, fun i u q hu hq => ?_⟩
  cases i with
  | zero =>
    simp only [List.getElem?_cons_zero, Option.some.injEq] at hu hq
    subst hu hq
    exact ⟨A, c, rfl, h⟩
  | succ i => simp at hu
theorem Vals.oneCell (h : Vals w B xs ls) : ∀ u ∈ xs, u.oneCell' = true := by
  intro u hu
  obtain ⟨i, hi, rfl⟩ := List.getElem_of_mem hu
  obtain ⟨A', c', e, _⟩ := h.2 i xs[i] (ls[i]'(by rw [← h.1]; exact hi)) (List.getElem?_eq_getElem hi) (List.getElem?_eq_getElem _)
  rw [e]
  rfl
end

/-- All frames so far, one behind the other, in a row of the call's own. -/
def AllIn (w : World) (base : Nat) (v : Value) (ks : List (List UInt8)) : Prop := ∃ A c, v = .slice A (Fr.used ks) c ∧ w.ownsRow base 5 1 v (Fr.used ks) (bytesV (Fr.wraps ks))
/-- The texts so far, as they came in, in a row of the call's own. -/
def TextIn (w : World) (base B : Nat) (v : Value) (ks : List (List UInt8)) : Prop := ∃ A c xs, v = .slice A ks.length c ∧ w.ownsRow base 23 1 v ks.length xs ∧ Vals w B xs ks

theorem AllIn.none_ (w : World) (base : Nat) : AllIn w base (.slice none 0 0) [] := ⟨_, _, rfl, World.ownsRow_nil _ _ _ _⟩
theorem TextIn.none_ (w : World) (base B : Nat) : TextIn w base B (.slice none 0 0) [] := ⟨_, _, [], rfl, World.ownsRow_nil _ _ _ _, Vals.nil _ _⟩

/-- One text more: wrapped, appended to all; itself appended to the texts. -/
theorem keep_step {w w1 w2 w3 : World} {base B : Nat} {Aa Aw A3 A4 Ap : Option Addr} {ca cw c3 c4 cp : Nat} {xs : List Value} {ks : List (List UInt8)} {p : List UInt8} (hB : B ≤ base) (hs : base ≤ w.heap.size)
    (ha : w.ownsRow base 5 1 (.slice Aa (Fr.used ks) ca) (Fr.used ks) (bytesV (Fr.wraps ks))) (hw : w.ownsRow base 23 1 (.slice Aw ks.length cw) ks.length xs) (hx : Vals w B xs ks) (hp : Bytes w B Ap p)
    (hb1 : Below w.heap.size w w1)
    (ha2 : w2.ownsRow base 5 1 (.slice A3 (Fr.used ks + (6 + p.length)) c3) (Fr.used ks + (6 + p.length)) (bytesV (Fr.wraps ks) ++ bytesV (Fr.wrap p))) (hg2 : w1.grownBy w2 (Value.slice Aa (Fr.used ks) ca).ownBlock)
    (hw3 : w3.ownsRow base 23 1 (.slice A4 (ks.length + 1) c4) (ks.length + 1) (xs ++ [.slice Ap p.length cp])) (hg3 : (w2.alloc (.cells #[.slice Ap p.length cp] 23)).grownBy w3 (Value.slice Aw ks.length cw).ownBlock) :
    AllIn w3 base (.slice A3 (Fr.used ks + (6 + p.length)) c3) (ks ++ [p]) ∧ TextIn w3 base B (.slice A4 (ks.length + 1) c4) (ks ++ [p]) ∧ Below base w w3 := by
  have ha1 := own_below ha hb1
  have hw1 := own_below hw hb1
  have hs1 : base ≤ w1.heap.size := Nat.le_trans hs hb1.size
  have hb2 := below_append ha1 hg2 (Nat.le_refl _) hs1
  have hw2 := hw1.kept hg2 (own_ne hw1 ha1 (by decide))
  have hw2a := hw2.alloc (.cells #[.slice Ap p.length cp] 23)
  have hs2 : base ≤ w2.heap.size := Nat.le_trans hs1 hb2.size
  have hb2a : Below base w2 (w2.alloc (.cells #[.slice Ap p.length cp] 23)) := (Below.refl _ _).alloc hs2 _
  have hb3 := below_append hw2a hg3 (Nat.le_refl _) (Nat.le_trans hs2 hb2a.size)
  have hball : Below base w w3 := (hb1.mono hs).trans (hb2.trans (hb2a.trans hb3))
  have ha3 := (ha2.alloc (.cells #[.slice Ap p.length cp] 23)).kept hg3 (own_ne (ha2.alloc _) hw2a (by decide))
  refine ⟨⟨A3, c3, by rw [Fr.used_snoc], by rw [Fr.used_snoc, Fr.wraps_snoc, bytesV_append]; exact ha3⟩, ⟨A4, c4, xs ++ [.slice Ap p.length cp], by simp, by simpa using hw3, ?_⟩, hball⟩
  exact ((hx.below (hball.mono hB)).append (Vals.one (hp.below (hball.mono hB))))

/-- Those of a list that are let. -/
def keep (m : Nat) (ls : List (List UInt8)) : List (List UInt8) := ls.filter fun p => decide (0 < p.length) && decide (p.length ≤ m)
theorem keep_yes {m : Nat} {ls : List (List UInt8)} {k : Nat} (hk : k < ls.length) (h0 : 0 < ls[k].length) (h1 : ls[k].length ≤ m) : keep m (ls.take (k + 1)) = keep m (ls.take k) ++ [ls[k]] := by
  unfold keep
  rw [List.take_succ_eq_append_getElem hk, List.filter_append]
  congr 1
  simp [h0, h1]
theorem keep_no {m : Nat} {ls : List (List UInt8)} {k : Nat} (hk : k < ls.length) (h : ls[k].length = 0 ∨ m < ls[k].length) : keep m (ls.take (k + 1)) = keep m (ls.take k) := by
  have hn : (decide (0 < ls[k].length) && decide (ls[k].length ≤ m)) = false := by
    simp only [Bool.and_eq_false_iff, decide_eq_false_iff_not]
    omega
  have e : [ls[k]].filter (fun p => decide (0 < p.length) && decide (p.length ≤ m)) = [] := by rw [List.filter_cons, if_neg (by rw [hn]; decide)]; rfl
  unfold keep
  rw [List.take_succ_eq_append_getElem hk, List.filter_append, e, List.append_nil]
theorem keep_mem {m : Nat} {ls : List (List UInt8)} {p : List UInt8} (h : p ∈ keep m ls) : 0 < p.length ∧ p.length ≤ m := by
  simpa [keep] using (List.mem_filter.1 h).2
theorem keep_len (m : Nat) (ls : List (List UInt8)) (k : Nat) : (keep m (ls.take k)).length ≤ k := Nat.le_trans (List.length_filter_le _ _) (List.length_take_le _ _)
theorem used_bound (m : Nat) (ks : List (List UInt8)) (h : ∀ p ∈ ks, p.length ≤ m) : Fr.used ks ≤ ks.length * (6 + m) := by
  induction ks with
  | nil => simp [Fr.used]
  | cons p r ih =>
    have h1 := ih (fun x hx => h x (by simp [hx]))
    have h2 := h p (by simp)
    simp only [Fr.used, List.length_cons, Nat.succ_mul]
    omega
theorem keep_used (m : Nat) (ls : List (List UInt8)) (k : Nat) : Fr.used (keep m (ls.take k)) ≤ k * (6 + m) :=
  Nat.le_trans (used_bound m _ fun _ hp => (keep_mem hp).2) (Nat.mul_le_mul_right _ (keep_len m ls k))

section
variable {w w' : World} {base base' : Nat} {xs ys : List Value} {ls : List (List UInt8)}
theorem Own2.below (h : Own2 w base xs ls) (hb : Below w.heap.size w w') : Own2 w' base xs ls := ⟨h.1, fun i u p h1 h2 => own_below (h.2 i u p h1 h2) hb⟩
/-- While a row of slices grows, rows of bytes stay. -/
theorem Own2.kept {v : Value} {n : Nat} (h : Own2 w base xs ls) (hv : w.ownsRow base' 23 1 v n ys) (hg : w.grownBy w' v.ownBlock) : Own2 w' base xs ls :=
  ⟨h.1, fun i u p h1 h2 => (h.2 i u p h1 h2).kept hg (own_ne (h.2 i u p h1 h2) hv (by decide))⟩
theorem Own2.vals (h : Own2 w base xs ls) : Vals w w.heap.size xs ls :=
  ⟨h.1, fun i u p h1 h2 => by
    have hr := h.2 i u p h1 h2
    obtain ⟨A', c', rfl⟩ := own_form hr
    exact ⟨A', c', rfl, Lies.of_own hr⟩⟩
end
theorem scan_got (A : Option Addr) (c n : Nat) (l : List UInt8) (w : World) (ls : List (List UInt8)) (hn : l.length = n) (hl : Fr.full l = ls) (h : Bytes w w.heap.size A l) (hc : n ≤ c) (hm : n ≤ 1048576) :
    Calls Try.prog 12 #[.slice A n c] w fun e w' => ∃ A' c' xs, e = .returned (.tuple #[.slice A' ls.length c', .int .i64 (Fr.used ls)]) ∧ w'.ownsRow (w.heap.size + 1) 23 1 (.slice A' ls.length c') ls.length xs ∧ Own2 w' (w.heap.size + 1) xs ls ∧ Below w.heap.size w w' := by
  subst hn hl
  refine (scan_any A c l w h hc hm).mono ?_
  rintro e w' ⟨v, rfl, ⟨A', c', xs, rfl, ho, hx⟩, hb⟩
  exact ⟨A', c', xs, rfl, ho, hx, hb⟩
/-- A row that was made later lies elsewhere. -/
theorem own_later {w w' : World} {base base' e e' n m : Nat} {v u : Value} {xs ys : List Value} (h : w.ownsRow base e 1 v n xs) (k : w'.ownsRow base' e' 1 u m ys) (hlt : w'.heap.size ≤ base) : v.ownBlock = none ∨ v.ownBlock ≠ u.ownBlock := by
  cases hv : v.ownBlock with
  | none => exact .inl rfl
  | some g =>
    right
    intro hu
    have h1 := (h.lt g hv).1
    have h2 := (k.lt g hu.symm).2
    omega
end Go.Proofs.Ytckjjionidaecaa
