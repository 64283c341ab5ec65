/- Frames over plain lists of bytes: the check sum, a frame, what bytes are frames of, and the laws of these. No program is in sight. No conditions. -/
namespace Go.Proofs.Ytckjjionidaecaa.Fr

/-! ### The check sum -/

/-- One bit goes out. -/
def bit (n : Nat) : Nat := if n % 2 = 1 then (n / 2) ^^^ 3945912366 else n / 2
/-- So many bits go out. -/
def bits : Nat → Nat → Nat
  | 0, n => n
  | k + 1, n => bits k (bit n)
def eat (n : Nat) (c : UInt8) : Nat := bits 8 (n ^^^ c.toNat)
def run (n : Nat) (l : List UInt8) : Nat := l.foldl eat n
def sum (l : List UInt8) : Nat := 4294967295 - run 4294967295 l

theorem bit_lt {n : Nat} (h : n < 4294967296) : bit n < 4294967296 := by
  unfold bit
  split
  · exact Nat.xor_lt_two_pow (n := 32) (by omega) (by omega)
  · omega
theorem bits_lt (k : Nat) : ∀ {n : Nat}, n < 4294967296 → bits k n < 4294967296 := by
  induction k with
  | zero => intro n h; exact h
  | succ k ih => intro n h; exact ih (bit_lt h)
theorem mix_lt {n : Nat} (h : n < 4294967296) (c : UInt8) : n ^^^ c.toNat < 4294967296 :=
  Nat.xor_lt_two_pow (n := 32) h (by have := c.toNat_lt; omega)
theorem eat_lt {n : Nat} (h : n < 4294967296) (c : UInt8) : eat n c < 4294967296 := bits_lt 8 (mix_lt h c)
theorem run_lt (l : List UInt8) : ∀ {n : Nat}, n < 4294967296 → run n l < 4294967296 := by
  induction l with
  | nil => intro n h; exact h
  | cons c l ih => intro n h; exact ih (eat_lt h c)
theorem sum_lt (l : List UInt8) : sum l < 4294967296 := by unfold sum; omega

theorem xor_can {a b c : Nat} (h : a ^^^ c = b ^^^ c) : a = b := by
  have h1 : (a ^^^ c) ^^^ c = (b ^^^ c) ^^^ c := by rw [h]
  simpa [Nat.xor_assoc] using h1
theorem xor_can' {a b c : Nat} (h : c ^^^ a = c ^^^ b) : a = b := by
  rw [Nat.xor_comm c a, Nat.xor_comm c b] at h
  exact xor_can h

theorem top_of_bit {n : Nat} (h : n < 4294967296) : (bit n).testBit 31 = decide (n % 2 = 1) := by
  have hs : (n / 2).testBit 31 = false := Nat.testBit_lt_two_pow (by omega)
  unfold bit
  split
  · rename_i h1
    rw [Nat.testBit_xor, hs]
    simp [h1]
    decide
  · rename_i h1
    rw [hs]
    simp [h1]
theorem bit_inj {n m : Nat} (hn : n < 4294967296) (hm : m < 4294967296) (h : bit n = bit m) : n = m := by
  have ht : decide (n % 2 = 1) = decide (m % 2 = 1) := by rw [← top_of_bit hn, ← top_of_bit hm, h]
  have hp : n % 2 = m % 2 := by
    by_cases h1 : n % 2 = 1
    · simp [h1] at ht; omega
    · simp [h1] at ht; omega
  unfold bit at h
  by_cases h1 : n % 2 = 1
  · rw [if_pos h1, if_pos (by omega)] at h
    have := xor_can h
    omega
  · rw [if_neg h1, if_neg (by omega)] at h
    omega
theorem bits_inj (k : Nat) : ∀ {n m : Nat}, n < 4294967296 → m < 4294967296 → bits k n = bits k m → n = m := by
  induction k with
  | zero => intro n m _ _ h; exact h
  | succ k ih => intro n m hn hm h; exact bit_inj hn hm (ih (bit_lt hn) (bit_lt hm) h)
theorem eat_inj {n m : Nat} (hn : n < 4294967296) (hm : m < 4294967296) {c : UInt8} (h : eat n c = eat m c) : n = m :=
  xor_can (bits_inj 8 (mix_lt hn c) (mix_lt hm c) h)
theorem eat_inj' {n : Nat} (hn : n < 4294967296) {c d : UInt8} (h : eat n c = eat n d) : c = d :=
  UInt8.toNat_inj.1 (xor_can' (bits_inj 8 (mix_lt hn c) (mix_lt hn d) h))
theorem run_inj (l : List UInt8) : ∀ {n m : Nat}, n < 4294967296 → m < 4294967296 → run n l = run m l → n = m := by
  induction l with
  | nil => intro n m _ _ h; exact h
  | cons c l ih => intro n m hn hm h; exact eat_inj hn hm (ih (eat_lt hn c) (eat_lt hm c) h)
theorem run_append (n : Nat) (a b : List UInt8) : run n (a ++ b) = run (run n a) b := by simp [run, List.foldl_append]
theorem run_cons (n : Nat) (c : UInt8) (b : List UInt8) : run n (c :: b) = run (eat n c) b := rfl
theorem run_snoc (n : Nat) (a : List UInt8) (c : UInt8) : run n (a ++ [c]) = eat (run n a) c := by rw [run_append]; rfl

theorem run_turned {n : Nat} (hn : n < 4294967296) (a b : List UInt8) {c d : UInt8} (h : run n (a ++ c :: b) = run n (a ++ d :: b)) : c = d := by
  rw [run_append, run_append, run_cons, run_cons] at h
  have ha := run_lt a hn
  exact eat_inj' ha (run_inj b (eat_lt ha c) (eat_lt ha d) h)
theorem sum_run {a b : List UInt8} (h : sum a = sum b) : run 4294967295 a = run 4294967295 b := by
  have h1 := run_lt a (n := 4294967295) (by omega)
  have h2 := run_lt b (n := 4294967295) (by omega)
  unfold sum at h
  omega
theorem sum_turned (a b : List UInt8) {c d : UInt8} (h : sum (a ++ c :: b) = sum (a ++ d :: b)) : c = d := run_turned (by omega) a b (sum_run h)

/-- A byte in the middle set: another sum, but where it is the same byte. -/
theorem sum_set {l : List UInt8} {i : Nat} (hi : i < l.length) (d : UInt8) (h : sum (l.set i d) = sum l) : d = l[i] := by
  have e1 : l.set i d = l.take i ++ d :: l.drop (i + 1) := by
    rw [List.set_eq_take_append_cons_drop, if_pos hi]
  have e2 : l = l.take i ++ l[i] :: l.drop (i + 1) := by
    rw [← List.drop_eq_getElem_cons hi, List.take_append_drop]
  rw [e1] at h
  have h' : sum (l.take i ++ d :: l.drop (i + 1)) = sum (l.take i ++ l[i] :: l.drop (i + 1)) := by rw [h]; exact congrArg sum e2
  exact sum_turned _ _ h'

/-! ### Numbers in bytes -/

def number (l : List UInt8) : Nat := l.foldl (fun n c => n * 256 + c.toNat) 0
def be2 (n : Nat) : List UInt8 := [UInt8.ofNat (n / 256), UInt8.ofNat n]
def be4 (n : Nat) : List UInt8 := [UInt8.ofNat (n / 16777216), UInt8.ofNat (n / 65536), UInt8.ofNat (n / 256), UInt8.ofNat n]

theorem number_snoc (l : List UInt8) (c : UInt8) : number (l ++ [c]) = number l * 256 + c.toNat := by simp [number, List.foldl_append]
theorem number_be2 {n : Nat} (h : n < 65536) : number (be2 n) = n := by
  simp only [number, be2, List.foldl_cons, List.foldl_nil, UInt8.toNat_ofNat']
  omega
theorem number_be4 {n : Nat} (h : n < 4294967296) : number (be4 n) = n := by
  simp only [number, be4, List.foldl_cons, List.foldl_nil, UInt8.toNat_ofNat']
  omega
theorem be2_number (x y : UInt8) : be2 (number [x, y]) = [x, y] := by
  have hx := x.toNat_lt
  have hy := y.toNat_lt
  simp only [number, be2, List.foldl_cons, List.foldl_nil, List.cons.injEq, and_true]
  constructor <;> (apply UInt8.toNat_inj.1; rw [UInt8.toNat_ofNat']; omega)
theorem be4_number (x y z u : UInt8) : be4 (number [x, y, z, u]) = [x, y, z, u] := by
  have hx := x.toNat_lt
  have hy := y.toNat_lt
  have hz := z.toNat_lt
  have hu := u.toNat_lt
  simp only [number, be4, List.foldl_cons, List.foldl_nil, List.cons.injEq, and_true]
  refine ⟨?_, ?_, ?_, ?_⟩ <;> (apply UInt8.toNat_inj.1; rw [UInt8.toNat_ofNat']; omega)
theorem number2_lt (x y : UInt8) : number [x, y] < 65536 := by
  have hx := x.toNat_lt
  have hy := y.toNat_lt
  simp only [number, List.foldl_cons, List.foldl_nil]
  omega
theorem number4_lt (x y z u : UInt8) : number [x, y, z, u] < 4294967296 := by
  have hx := x.toNat_lt
  have hy := y.toNat_lt
  have hz := z.toNat_lt
  have hu := u.toNat_lt
  simp only [number, List.foldl_cons, List.foldl_nil]
  omega

/-! ### Frames -/

def wrap (b : List UInt8) : List UInt8 := be2 b.length ++ be4 (sum b) ++ b
theorem wrap_length (b : List UInt8) : (wrap b).length = 6 + b.length := by simp [wrap, be2, be4]; omega

/-- What the first frame bears, if there is one. -/
def head (b : List UInt8) : Option (List UInt8) :=
  if b.length ≤ 6 then none else
  if number (b.take 2) = 0 ∨ 4000 < number (b.take 2) ∨ b.length < 6 + number (b.take 2) then none else
  if number ((b.drop 2).take 4) = sum ((b.drop 6).take (number (b.take 2))) then some ((b.drop 6).take (number (b.take 2))) else none

def scan : Nat → List UInt8 → List (List UInt8)
  | 0, _ => []
  | f + 1, b => match head b with
    | none => []
    | some p => p :: scan f (b.drop (6 + p.length))
/-- What bytes are frames of. -/
def full (b : List UInt8) : List (List UInt8) := scan b.length b
/-- How many bytes the frames have. -/
def used : List (List UInt8) → Nat
  | [] => 0
  | p :: r => 6 + p.length + used r

theorem head_some {b p : List UInt8} (h : head b = some p) : 0 < p.length ∧ p.length ≤ 4000 ∧ 6 + p.length ≤ b.length ∧ p = (b.drop 6).take p.length ∧ p.length = number (b.take 2) ∧ number ((b.drop 2).take 4) = sum p := by
  unfold head at h
  split at h
  · cases h
  · split at h
    · cases h
    · split at h
      · rename_i h1 h2 h3
        have hp : (b.drop 6).take (number (b.take 2)) = p := Option.some.inj h
        have hl : p.length = number (b.take 2) := by
          rw [← hp, List.length_take, List.length_drop]
          omega
        rw [← hp] at hl
        refine ⟨by rw [← hp]; omega, by rw [← hp]; omega, by rw [← hp]; omega, by rw [← hp, hl], by rw [← hp]; exact hl, by rw [← hp]; exact h3⟩
      · cases h

theorem scan_enough (f : Nat) : ∀ (g : Nat) (b : List UInt8), b.length ≤ f → b.length ≤ g → scan f b = scan g b := by
  induction f with
  | zero =>
    intro g b hf _
    obtain rfl : b = [] := List.eq_nil_of_length_eq_zero (by omega)
    cases g with
    | zero => rfl
    | succ g => rfl
  | succ f ih =>
    intro g b hf hg
    cases g with
    | zero =>
      obtain rfl : b = [] := List.eq_nil_of_length_eq_zero (by omega)
      rfl
    | succ g =>
      unfold scan
      cases hh : head b with
      | none => rfl
      | some p =>
        have := head_some hh
        simp only []
        rw [ih g _ (by rw [List.length_drop]; omega) (by rw [List.length_drop]; omega)]

theorem full_none {b : List UInt8} (h : head b = none) : full b = [] := by
  unfold full
  cases hb : b.length with
  | zero => rfl
  | succ n => simp only [scan, h]
theorem full_some {b p : List UInt8} (h : head b = some p) : full b = p :: full (b.drop (6 + p.length)) := by
  have hs := head_some h
  unfold full
  cases hb : b.length with
  | zero => omega
  | succ n =>
    simp only [scan, h]
    rw [scan_enough n _ _ (by rw [List.length_drop]; omega) (Nat.le_refl _)]

theorem used_append (a b : List (List UInt8)) : used (a ++ b) = used a + used b := by
  induction a with
  | nil => simp [used]
  | cons p a ih => simp only [List.cons_append, used, ih]; omega
theorem used_snoc (a : List (List UInt8)) (p : List UInt8) : used (a ++ [p]) = used a + (6 + p.length) := by rw [used_append]; simp [used]
theorem used_le (n : Nat) : ∀ b : List UInt8, b.length ≤ n → used (full b) ≤ b.length := by
  induction n with
  | zero =>
    intro b hb
    obtain rfl : b = [] := List.eq_nil_of_length_eq_zero (by omega)
    simp [full, scan, used]
  | succ n ih =>
    intro b hb
    cases hh : head b with
    | none => rw [full_none hh]; simp [used]
    | some p =>
      have hs := head_some hh
      rw [full_some hh]
      have := ih (b.drop (6 + p.length)) (by rw [List.length_drop]; omega)
      rw [List.length_drop] at this
      simp only [used]
      omega
theorem full_used (b : List UInt8) : used (full b) ≤ b.length := used_le b.length b (Nat.le_refl _)

/-! ### The laws -/

theorem wrap_take2 (b r : List UInt8) : (wrap b ++ r).take 2 = be2 b.length := by simp [wrap, be2, be4]
theorem wrap_mid (b r : List UInt8) : ((wrap b ++ r).drop 2).take 4 = be4 (sum b) := by simp [wrap, be2, be4]
theorem wrap_drop6 (b r : List UInt8) : (wrap b ++ r).drop 6 = b ++ r := by simp [wrap, be2, be4]

theorem head_wrap (b r : List UInt8) (h0 : 0 < b.length) (h1 : b.length ≤ 4000) : head (wrap b ++ r) = some b := by
  have hl : (wrap b ++ r).length = 6 + b.length + r.length := by rw [List.length_append, wrap_length]
  unfold head
  rw [wrap_take2, wrap_mid, wrap_drop6, number_be2 (by omega), number_be4 (sum_lt _), hl, if_neg (by omega), if_neg (by omega)]
  simp
theorem full_wrap (b r : List UInt8) (h0 : 0 < b.length) (h1 : b.length ≤ 4000) : full (wrap b ++ r) = b :: full r := by
  rw [full_some (head_wrap b r h0 h1)]
  congr 2
  rw [List.drop_append, wrap_length]
  simp [wrap_length]

def wraps (l : List (List UInt8)) : List UInt8 := l.flatMap wrap
theorem wraps_snoc (l : List (List UInt8)) (b : List UInt8) : wraps (l ++ [b]) = wraps l ++ wrap b := by simp [wraps]
theorem wraps_length (l : List (List UInt8)) : (wraps l).length = used l := by
  induction l with
  | nil => rfl
  | cons b l ih =>
    have : wraps (b :: l) = wrap b ++ wraps l := by simp [wraps]
    rw [this, List.length_append, wrap_length, ih]
    rfl
theorem full_wraps (l : List (List UInt8)) (r : List UInt8) (h : ∀ b ∈ l, 0 < b.length ∧ b.length ≤ 4000) : full (wraps l ++ r) = l ++ full r := by
  induction l with
  | nil => simp [wraps]
  | cons b l ih =>
    have e : wraps (b :: l) = wrap b ++ wraps l := by simp [wraps]
    rw [e, List.append_assoc, full_wrap b _ (h b (by simp)).1 (h b (by simp)).2, ih (fun x hx => h x (by simp [hx]))]
    rfl

theorem full_nil : full [] = [] := rfl

/-- A frame that is cut is none. -/
theorem head_cut (b : List UInt8) {k : Nat} (hb : b.length ≤ 4000) (hk : k < 6 + b.length) : head ((wrap b).take k) = none := by
  have hl : ((wrap b).take k).length = k := by rw [List.length_take, wrap_length]; omega
  unfold head
  rw [hl]
  by_cases h6 : k ≤ 6
  · rw [if_pos h6]
  · rw [if_neg h6]
    have ht : ((wrap b).take k).take 2 = be2 b.length := by
      rw [List.take_take, show min 2 k = 2 by omega]
      have := wrap_take2 b []
      simpa using this
    rw [ht, number_be2 (by omega), if_pos (by omega)]

theorem full_cut (l : List (List UInt8)) (b : List UInt8) (k : Nat) (h : ∀ x ∈ l, 0 < x.length ∧ x.length ≤ 4000) (hb : b.length ≤ 4000) (hk : k < 6 + b.length) : full ((wraps (l ++ [b])).take ((wraps l).length + k)) = l := by
  have e : (wraps (l ++ [b])).take ((wraps l).length + k) = wraps l ++ (wrap b).take k := by
    rw [wraps_snoc, List.take_append, List.take_of_length_le (by omega)]
    congr 2
    omega
  rw [e, full_wraps l _ h, full_none (head_cut b hb hk)]
  simp

/-- A frame one of whose bytes is another one is none. -/
theorem head_turned (b : List UInt8) (i : Nat) (d : UInt8) (h0 : 0 < b.length) (h1 : b.length ≤ 4000) (hi : i < b.length) (hd : d ≠ b[i]) : head ((wrap b).set (6 + i) d) = none := by
  have e : (wrap b).set (6 + i) d = be2 b.length ++ be4 (sum b) ++ b.set i d := by
    unfold wrap
    rw [List.set_append_right _ _ (by simp [be2, be4])]
    congr 2
    simp [be2, be4]
  have hl : (be2 b.length ++ be4 (sum b) ++ b.set i d).length = 6 + b.length := by simp [be2, be4]; omega
  have e2 : (be2 b.length ++ be4 (sum b) ++ b.set i d).take 2 = be2 b.length := by simp [be2, be4]
  have e4 : ((be2 b.length ++ be4 (sum b) ++ b.set i d).drop 2).take 4 = be4 (sum b) := by simp [be2, be4]
  have e6 : (be2 b.length ++ be4 (sum b) ++ b.set i d).drop 6 = b.set i d := by simp [be2, be4]
  rw [e]
  unfold head
  rw [e2, e4, e6, number_be2 (by omega), number_be4 (sum_lt _), hl, if_neg (by omega), if_neg (by omega), List.take_of_length_le (by simp)]
  rw [if_neg]
  intro hc
  exact hd (sum_set hi d hc.symm)
theorem full_turned (a b : List UInt8) (i : Nat) (d : UInt8) (ha : 0 < a.length) (ha1 : a.length ≤ 4000) (h0 : 0 < b.length) (h1 : b.length ≤ 4000) (hi : i < b.length) (hd : d ≠ b[i]) :
    full (wrap a ++ (wrap b).set (6 + i) d) = [a] := by
  rw [full_wrap a _ ha ha1, full_none (head_turned b i d h0 h1 hi hd)]

/-- The reference's way to ask: is what is there a wrap? -/
theorem wrap_is {b : List UInt8} {n : Nat} (h6 : 6 ≤ b.length) (hn : n = number (b.take 2)) (hl : 6 + n ≤ b.length) :
    wrap ((b.drop 6).take n) = b.take (6 + n) ↔ number ((b.drop 2).take 4) = sum ((b.drop 6).take n) := by
  obtain ⟨x, y, z, u, v, t, r, rfl⟩ : ∃ x y z u v t r, b = x :: y :: z :: u :: v :: t :: r := by
    match b, h6 with
    | x :: y :: z :: u :: v :: t :: r, _ => exact ⟨x, y, z, u, v, t, r, rfl⟩
  simp only [List.take_succ_cons, List.take_zero, List.drop_succ_cons, List.drop_zero] at hn ⊢
  have hlen : (r.take n).length = n := by
    rw [List.length_take]
    simp only [List.length_cons] at hl
    omega
  have h2 : be2 n = [x, y] := by rw [hn]; exact be2_number x y
  have e : wrap (r.take n) = [x, y] ++ be4 (sum (r.take n)) ++ r.take n := by unfold wrap; rw [hlen, h2]
  have e' : (x :: y :: z :: u :: v :: t :: r).take (6 + n) = [x, y] ++ [z, u, v, t] ++ r.take n := by
    rw [show 6 + n = n + 1 + 1 + 1 + 1 + 1 + 1 by omega]
    simp only [List.take_succ_cons]
    rfl
  rw [e, e']
  constructor
  · intro h
    have h' := List.append_cancel_right h
    have h'' := List.append_cancel_left h'
    rw [← h'', number_be4 (sum_lt _)]
  · intro h
    rw [← h, be4_number]

theorem awake_list : full (wrap [97] ++ wrap [97]) = [[97], [97]] := by
  rw [full_wrap _ _ (by decide) (by decide)]
  have := full_wrap [97] [] (by decide) (by decide)
  rw [List.append_nil] at this
  rw [this]
  rfl
theorem sum_nil : sum [] = 0 := rfl
theorem sum_a : sum [97] ≠ 0 := by decide

#print axioms full_turned
#print axioms full_cut
#print axioms wrap_is
#print axioms awake_list
end Go.Proofs.Ytckjjionidaecaa.Fr
