/- The tree by itself: who is above whom, how deep one is, ways. Plain lemmas about numbers and lists; no program. -/
namespace Go.Proofs.Ytofgclmibemniaa

/-- One, its parent, and so on. -/
def anc (p : Nat → Nat) (n : Nat) : List Nat := if h : n = 0 then [0] else n :: anc p (min (p n) (n - 1))
termination_by n
decreasing_by omega

theorem anc_zero (p : Nat → Nat) : anc p 0 = [0] := by rw [anc]; simp
theorem anc_step (p : Nat → Nat) {n : Nat} (h : 0 < n) (hp : p n < n) : anc p n = n :: anc p (p n) := by
  rw [anc, dif_neg (by omega), show min (p n) (n - 1) = p n by omega]
theorem anc_head (p : Nat → Nat) (n : Nat) : ∃ t, anc p n = n :: t := by
  rw [anc]
  split
  · rename_i h
    exact ⟨[], by rw [h]⟩
  · exact ⟨_, rfl⟩
theorem anc_self (p : Nat → Nat) (n : Nat) : n ∈ anc p n := by
  obtain ⟨t, h⟩ := anc_head p n
  rw [h]
  exact List.mem_cons_self
theorem anc_le (p : Nat → Nat) (n : Nat) : ∀ x ∈ anc p n, x ≤ n := by
  induction n using Nat.strongRecOn with
  | ind n ih =>
    intro x hx
    rw [anc] at hx
    split at hx
    · simp at hx; omega
    · rcases List.mem_cons.1 hx with h | h
      · omega
      · have := ih _ (by omega) x h
        omega
theorem anc_root (p : Nat → Nat) (n : Nat) : 0 ∈ anc p n := by
  induction n using Nat.strongRecOn with
  | ind n ih =>
    rw [anc]
    split
    · exact List.mem_cons_self
    · exact List.mem_cons_of_mem _ (ih _ (by omega))
/-- From one who is above on, those above are just those above that one. -/
theorem anc_split (p : Nat → Nat) (n : Nat) : ∀ c ∈ anc p n, ∃ X, anc p n = X ++ anc p c ∧ (∀ x ∈ X, c < x) := by
  induction n using Nat.strongRecOn with
  | ind n ih =>
    intro c hc
    by_cases h0 : c = n
    · subst h0
      exact ⟨[], rfl, by simp⟩
    · have hc' := hc
      rw [anc] at hc'
      split at hc'
      · rename_i hn
        simp at hc'
        omega
      · rename_i hn
        rcases List.mem_cons.1 hc' with h | h
        · exact absurd h h0
        · obtain ⟨X, hX, hlt⟩ := ih _ (by omega) c h
          refine ⟨n :: X, ?_, ?_⟩
          · rw [anc, dif_neg hn, hX]
            rfl
          · intro x hx
            rcases List.mem_cons.1 hx with e | hx
            · have := anc_le p n c hc
              omega
            · exact hlt x hx
theorem anc_trans (p : Nat → Nat) {a b c : Nat} (h1 : a ∈ anc p b) (h2 : b ∈ anc p c) : a ∈ anc p c := by
  obtain ⟨X, hX, _⟩ := anc_split p c b h2
  rw [hX]
  exact List.mem_append_right _ h1
theorem anc_antisymm (p : Nat → Nat) {a b : Nat} (h1 : a ∈ anc p b) (h2 : b ∈ anc p a) : a = b := by
  have := anc_le p b a h1
  have := anc_le p a b h2
  omega
theorem anc_chain (p : Nat → Nat) {a b c : Nat} (h1 : a ∈ anc p c) (h2 : b ∈ anc p c) (h : b ≤ a) : b ∈ anc p a := by
  obtain ⟨X, hX, hlt⟩ := anc_split p c a h1
  rw [hX] at h2
  rcases List.mem_append.1 h2 with h3 | h3
  · have := hlt b h3
    omega
  · exact h3

/-- How deep one is. -/
def dep (p : Nat → Nat) (n : Nat) : Nat := (anc p n).length - 1
theorem anc_length (p : Nat → Nat) (n : Nat) : (anc p n).length = dep p n + 1 := by
  unfold dep
  obtain ⟨t, h⟩ := anc_head p n
  rw [h]
  simp
theorem dep_zero (p : Nat → Nat) : dep p 0 = 0 := by unfold dep; rw [anc_zero]; rfl
theorem dep_step (p : Nat → Nat) {n : Nat} (h : 0 < n) (hp : p n < n) : dep p n = dep p (p n) + 1 := by
  unfold dep
  rw [anc_step p h hp, List.length_cons]
  have := anc_length p (p n)
  omega
theorem dep_le (p : Nat → Nat) (n : Nat) : dep p n ≤ n := by
  induction n using Nat.strongRecOn with
  | ind n ih =>
    by_cases h0 : n = 0
    · subst h0; rw [dep_zero]; omega
    · unfold dep
      rw [anc, dif_neg h0, List.length_cons, anc_length]
      have := ih (min (p n) (n - 1)) (by omega)
      omega

/-- Is one above another one, or it? -/
def upB (p : Nat → Nat) (a b : Nat) : Bool := decide (a ∈ anc p b)
theorem upB_iff {p : Nat → Nat} {a b : Nat} : upB p a b = true ↔ a ∈ anc p b := by unfold upB; simp
theorem upB_not {p : Nat → Nat} {a b : Nat} : upB p a b = false ↔ ¬ a ∈ anc p b := by unfold upB; simp

/-- The highest broker of a way: the first one above a that is above b, too. -/
def top (p : Nat → Nat) (a b : Nat) : Nat := if h : a = 0 then 0 else if a ∈ anc p b then a else top p (min (p a) (a - 1)) b
termination_by a
decreasing_by omega
theorem top_up (p : Nat → Nat) {a b : Nat} (h : a ∈ anc p b) : top p a b = a := by
  rw [top]
  split
  · omega
  · first | rfl | rw [if_pos h]
theorem top_step (p : Nat → Nat) {a b : Nat} (h : ¬ a ∈ anc p b) (hp : p a < a) : top p a b = top p (p a) b := by
  have h0 : a ≠ 0 := fun e => h (by rw [e]; exact anc_root p b)
  rw [top, dif_neg h0, if_neg h, show min (p a) (a - 1) = p a by omega]
theorem top_spec (p : Nat → Nat) (a b : Nat) : top p a b ∈ anc p a ∧ top p a b ∈ anc p b ∧ ∀ x, x ∈ anc p a → x ∈ anc p b → x ≤ top p a b := by
  induction a using Nat.strongRecOn with
  | ind a ih =>
    by_cases h : a ∈ anc p b
    · rw [top_up p h]
      exact ⟨anc_self p a, h, fun x hx _ => anc_le p a x hx⟩
    · have h0 : a ≠ 0 := fun e => h (by rw [e]; exact anc_root p b)
      rw [top, dif_neg h0, if_neg h]
      obtain ⟨h1, h2, h3⟩ := ih (min (p a) (a - 1)) (by omega)
      have ha : anc p a = a :: anc p (min (p a) (a - 1)) := by rw [anc, dif_neg h0]
      refine ⟨by rw [ha]; exact List.mem_cons_of_mem _ h1, h2, fun x hx hxb => ?_⟩
      rw [ha] at hx
      rcases List.mem_cons.1 hx with rfl | hx
      · exact absurd hxb h
      · exact h3 x hx hxb
theorem top_unique (p : Nat → Nat) {a b c : Nat} (h1 : c ∈ anc p a) (h2 : c ∈ anc p b) (h3 : ∀ x, x ∈ anc p a → x ∈ anc p b → x ≤ c) : top p a b = c := by
  obtain ⟨k1, k2, k3⟩ := top_spec p a b
  have := k3 c h1 h2
  have := h3 _ k1 k2
  omega
theorem top_comm (p : Nat → Nat) (a b : Nat) : top p a b = top p b a := by
  obtain ⟨k1, k2, k3⟩ := top_spec p b a
  exact top_unique p k2 k1 (fun x h1 h2 => k3 x h2 h1)

/-- Those above one, below c. -/
def low (p : Nat → Nat) (a c : Nat) : List Nat := (anc p a).filter fun x => decide (c < x)
theorem low_self (p : Nat → Nat) (c : Nat) : low p c c = [] := by
  unfold low
  rw [List.filter_eq_nil_iff]
  intro x hx
  have := anc_le p c x hx
  simp
  omega
theorem low_step (p : Nat → Nat) {a c : Nat} (h : c < a) (hp : p a < a) : low p a c = a :: low p (p a) c := by
  unfold low
  rw [anc_step p (by omega) hp, List.filter_cons]
  simp [h]
theorem low_split (p : Nat → Nat) {a c : Nat} (h : c ∈ anc p a) : anc p a = low p a c ++ anc p c := by
  obtain ⟨X, hX, hlt⟩ := anc_split p a c h
  have : low p a c = X := by
    unfold low
    rw [hX, List.filter_append]
    have h1 : X.filter (fun x => decide (c < x)) = X := by
      rw [List.filter_eq_self]
      intro x hx
      simpa using hlt x hx
    have h2 := low_self p c
    unfold low at h2
    rw [h1, h2, List.append_nil]
  rw [this]
  exact hX

/-- The way. -/
def way (p : Nat → Nat) (a b : Nat) : List Nat := low p a (top p a b) ++ top p a b :: (low p b (top p a b)).reverse
theorem way_turn (p : Nat → Nat) (a b : Nat) : (way p a b).reverse = way p b a := by
  unfold way
  rw [top_comm p b a]
  simp
theorem low_cons (p : Nat → Nat) {a c : Nat} (h : c ∈ anc p a) (hc : c ≠ a) : ∃ t, low p a c = a :: t := by
  have hs := low_split p h
  obtain ⟨t, ht⟩ := anc_head p a
  cases hl : low p a c with
  | nil =>
    rw [hl, List.nil_append] at hs
    obtain ⟨u, hu⟩ := anc_head p c
    rw [ht, hu] at hs
    injection hs with h1 h2
    exact absurd h1.symm hc
  | cons x u =>
    rw [hl, ht] at hs
    injection hs with h1 h2
    exact ⟨u, by rw [← h1]⟩
theorem way_head (p : Nat → Nat) (a b : Nat) : ∃ t, way p a b = a :: t := by
  unfold way
  by_cases h : top p a b = a
  · rw [h, low_self]
    exact ⟨_, rfl⟩
  · obtain ⟨t, ht⟩ := low_cons p (top_spec p a b).1 h
    rw [ht]
    exact ⟨_, rfl⟩
theorem way_last (p : Nat → Nat) (a b : Nat) : ∃ t, way p a b = t ++ [b] := by
  obtain ⟨t, ht⟩ := way_head p b a
  rw [← way_turn p a b] at ht
  refine ⟨t.reverse, ?_⟩
  have := congrArg List.reverse ht
  simpa using this
theorem way_length (p : Nat → Nat) (a b : Nat) : (way p a b).length + 2 * dep p (top p a b) = dep p a + dep p b + 1 := by
  obtain ⟨h1, h2, _⟩ := top_spec p a b
  have e1 := congrArg List.length (low_split p h1)
  have e2 := congrArg List.length (low_split p h2)
  rw [List.length_append, anc_length, anc_length] at e1 e2
  unfold way
  simp
  omega
theorem way_same (p : Nat → Nat) (a : Nat) : way p a a = [a] := by
  unfold way
  rw [top_up p (anc_self p a), low_self]
  rfl
theorem low_lt (p : Nat → Nat) {a c : Nat} : ∀ x ∈ low p a c, c < x ∧ x ∈ anc p a := by
  intro x hx
  unfold low at hx
  rw [List.mem_filter] at hx
  exact ⟨by simpa using hx.2, hx.1⟩
theorem way_le (p : Nat → Nat) (a b n : Nat) (ha : a < n) (hb : b < n) : ∀ x ∈ way p a b, x < n := by
  intro x hx
  obtain ⟨h1, h2, _⟩ := top_spec p a b
  unfold way at hx
  rcases List.mem_append.1 hx with h | h
  · have := anc_le p a x (low_lt p x h).2
    omega
  · rcases List.mem_cons.1 h with rfl | h
    · have := anc_le p a _ h1
      omega
    · have := anc_le p b x (low_lt p x (List.mem_reverse.1 h)).2
      omega
theorem anc_pairwise (p : Nat → Nat) (n : Nat) : (anc p n).Pairwise (· > ·) := by
  induction n using Nat.strongRecOn with
  | ind n ih =>
    rw [anc]
    split
    · simp
    · refine List.pairwise_cons.2 ⟨fun x hx => ?_, ih _ (by omega)⟩
      have := anc_le p _ x hx
      omega
theorem way_nodup (p : Nat → Nat) (a b : Nat) : (way p a b).Nodup := by
  obtain ⟨h1, h2, h3⟩ := top_spec p a b
  have n1 : (low p a (top p a b)).Nodup := ((anc_pairwise p a).imp (fun h => (by omega : _ ≠ _))).filter _
  have n2 : (low p b (top p a b)).Nodup := ((anc_pairwise p b).imp (fun h => (by omega : _ ≠ _))).filter _
  unfold way
  rw [List.nodup_append]
  refine ⟨n1, ?_, ?_⟩
  · rw [List.nodup_cons]
    refine ⟨fun h => ?_, List.pairwise_reverse.2 (n2.imp (fun h => Ne.symm h))⟩
    have := (low_lt p _ (List.mem_reverse.1 h)).1
    omega
  · intro x hx y hy e
    subst e
    obtain ⟨k1, k2⟩ := low_lt p x hx
    rcases List.mem_cons.1 hy with rfl | hy
    · omega
    · obtain ⟨k3, k4⟩ := low_lt p x (List.mem_reverse.1 hy)
      have := h3 x k2 k4
      omega

/-- Parents are parents. -/
def Good (p : Nat → Nat) (n : Nat) : Prop := ∀ k, 1 ≤ k → k < n → p k < k
/-- One step on, the way is the rest of it; and the step is to a neighbour. -/
theorem way_next (p : Nat → Nat) {n a b : Nat} (hg : Good p n) (ha : a < n) (hb : b < n) (hne : a ≠ b) :
    ∃ c, way p a b = a :: way p c b ∧ c < n ∧ ((0 < a ∧ c = p a) ∨ (0 < c ∧ a = p c)) := by
  obtain ⟨h1, h2, h3⟩ := top_spec p a b
  by_cases h : top p a b = a
  · have hab : a ∈ anc p b := by rw [← h]; exact h2
    -- down
    have hs := low_split p hab
    have hl : low p b a ≠ [] := by
      intro e
      obtain ⟨t, ht⟩ := low_cons p hab hne
      rw [e] at ht
      cases ht
    obtain ⟨u, c, huc⟩ : ∃ u c, low p b a = u ++ [c] := ⟨_, _, (List.dropLast_concat_getLast hl).symm⟩
    have hc : a < c ∧ c ∈ anc p b := low_lt p c (by rw [huc]; simp)
    have hcn : c < n := by have := anc_le p b c hc.2; omega
    have hpc := hg c (by omega) hcn
    have hsc := low_split p hc.2
    have hst := anc_step p (by omega) hpc
    -- the parts agree
    have hpa : p c = a := by
      have e1 : anc p b = low p b c ++ c :: anc p (p c) := by rw [← hst]; exact hsc
      have e2 : anc p b = u ++ c :: anc p a := by rw [hs, huc]; simp
      have hn : (anc p b).Nodup := (anc_pairwise p b).imp (fun h => (by omega : _ ≠ _))
      have key : ∀ (x y z w : List Nat), x ++ c :: y = z ++ c :: w → (x ++ c :: y).Nodup → x = z ∧ y = w := by
        intro x
        induction x with
        | nil =>
          intro y z w e hn
          cases z with
          | nil => simpa using e
          | cons z0 z =>
            simp only [List.nil_append, List.cons_append, List.cons.injEq] at e
            obtain ⟨rfl, e⟩ := e
            rw [List.nil_append, e, List.nodup_cons] at hn
            exact absurd (by simp) hn.1
        | cons x0 x ih =>
          intro y z w e hn
          cases z with
          | nil =>
            simp only [List.nil_append, List.cons_append, List.cons.injEq] at e
            obtain ⟨rfl, e⟩ := e
            rw [List.cons_append, List.nodup_cons] at hn
            exact absurd (by simp) hn.1
          | cons z0 z =>
            simp only [List.cons_append, List.cons.injEq] at e
            obtain ⟨rfl, e⟩ := e
            rw [List.cons_append, List.nodup_cons] at hn
            obtain ⟨rfl, h2⟩ := ih y z w e hn.2
            exact ⟨rfl, h2⟩
      obtain ⟨_, e3⟩ := key _ _ _ _ (e1.symm.trans e2) (by rw [← e1]; exact hn)
      obtain ⟨t, ht⟩ := anc_head p (p c)
      obtain ⟨t', ht'⟩ := anc_head p a
      rw [ht, ht'] at e3
      injection e3
    refine ⟨c, ?_, hcn, .inr ⟨by omega, hpa.symm⟩⟩
    have hlc : low p b c = u := by
      have hst' : anc p c = c :: anc p a := by rw [hst, hpa]
      have e1 : low p b c ++ anc p c = u ++ anc p c := by rw [← hsc, hs, huc, hst']; simp
      exact List.append_cancel_right e1
    have ht : top p c b = c := top_up p hc.2
    unfold way
    rw [h, ht, low_self, low_self, huc, hlc]
    simp
  · have hlt : top p a b < a := by have := anc_le p a _ h1; omega
    have hpa := hg a (by omega) ha
    have hna : ¬ a ∈ anc p b := fun hab => h (top_up p hab)
    refine ⟨p a, ?_, by omega, .inl ⟨by omega, rfl⟩⟩
    have ht := top_step p hna hpa
    unfold way
    rw [← ht, low_step p hlt hpa]
    rfl

/-- Those whose parent one is. -/
def kids (p : Nat → Nat) (n k : Nat) : List Nat := (List.range n).filter fun j => decide (1 ≤ j ∧ p j = k)
theorem mem_kids {p : Nat → Nat} {n k j : Nat} : j ∈ kids p n k ↔ j < n ∧ 1 ≤ j ∧ p j = k := by
  unfold kids
  simp
theorem kids_length_le (p : Nat → Nat) (n k : Nat) : (kids p n k).length ≤ n := by
  unfold kids
  have := List.length_filter_le (fun j => decide (1 ≤ j ∧ p j = k)) (List.range n)
  simpa using this
theorem filter_add {q r s : Nat → Bool} (l : List Nat) (h : ∀ x ∈ l, (s x = true ↔ q x = true ∨ r x = true) ∧ ¬ (q x = true ∧ r x = true)) : (l.filter s).length = (l.filter q).length + (l.filter r).length := by
  induction l with
  | nil => rfl
  | cons x l ih =>
    have hx := h x List.mem_cons_self
    have hi := ih (fun y hy => h y (List.mem_cons_of_mem _ hy))
    simp only [List.filter_cons]
    cases h1 : q x <;> cases h2 : r x <;> cases h3 : s x <;> simp_all <;> omega
/-- How many have a parent below m. -/
def upto (p : Nat → Nat) (n m : Nat) : Nat := ((List.range n).filter fun j => decide (1 ≤ j ∧ p j < m)).length
theorem upto_zero (p : Nat → Nat) (n : Nat) : upto p n 0 = 0 := by
  unfold upto
  simp
theorem upto_succ (p : Nat → Nat) (n m : Nat) : upto p n (m + 1) = upto p n m + (kids p n m).length := by
  unfold upto kids
  refine filter_add _ (fun x _ => ⟨?_, ?_⟩)
  · simp only [decide_eq_true_eq]
    omega
  · simp only [decide_eq_true_eq]
    omega
theorem upto_le (p : Nat → Nat) (n m : Nat) : upto p n m ≤ n := by
  unfold upto
  have := List.length_filter_le (fun j => decide (1 ≤ j ∧ p j < m)) (List.range n)
  simpa using this
theorem count_pos (n : Nat) (hn : 1 ≤ n) : ((List.range n).filter fun j => decide (1 ≤ j)).length = n - 1 := by
  induction n with
  | zero => omega
  | succ n ih =>
    rw [List.range_succ, List.filter_append]
    by_cases h : n = 0
    · subst h
      rfl
    · rw [List.length_append, ih (by omega)]
      simp [show 1 ≤ n by omega]
      try omega
theorem upto_all (p : Nat → Nat) (n : Nat) (hn : 1 ≤ n) (hg : Good p n) : upto p n n = n - 1 := by
  rw [← count_pos n hn]
  unfold upto
  congr 1
  refine List.filter_congr (fun x hx => ?_)
  have hx' : x < n := by simpa using hx
  simp only [decide_eq_decide]
  constructor
  · exact fun h => h.1
  · intro h
    have := hg x h hx'
    omega
end Go.Proofs.Ytofgclmibemniaa
