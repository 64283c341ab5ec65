/- The reference net in memory, and its walks. -/
import Derived.Test.YtbniaojldjhemaaEmpty
namespace Go.Proofs.Ytbniaojldjhemaa
open Go.Conc Go.RowKit Go.Maps

/-- A broker's parent, as the cell has it. -/
def par (p : Nat → Nat) (k : Nat) : Int := if k = 0 then -1 else p k
/-- A list of texts whose cells lie in another block than q. -/
def TextsOff (w : World) (q : Nat) (A : Option Addr) (ls : List (List UInt8)) : Prop :=
  ∃ xs : List Value, (xs = [] ∨ ∃ b off, A = some ⟨b, off, none⟩ ∧ b < w.heap.size ∧ b ≠ q ∧ ∀ j u, xs[j]? = some u → w.cell? ⟨b, off + j, none⟩ = some u) ∧ xs.length = ls.length ∧
    ∀ (i : Nat) (u : Value) (t : List UInt8), xs[i]? = some u → ls[i]? = some t → ∃ A' c', u = .slice A' t.length c' ∧ Bytes w w.heap.size A' t
/-- The reference net at block qr: parents of its own; each place's messages. -/
structure RefAt (w : World) (base qr n : Nat) (p : Nat → Nat) (M : Nat → Nat → List (List UInt8)) : Prop where
  lo : base ≤ qr
  tree : ∃ Ap cp, w.cell? ⟨qr, 0, none⟩ = some (.slice Ap n cp) ∧ n ≤ cp ∧ TreeAt w w.heap.size Ap n p
  blk : ∃ cs, Blk w qr 67 cs ∧ cs.size = 257
  rows : ∀ i j, i < 16 → j < 16 → ∃ A c, w.cell? ⟨qr, 1 + i * 16 + j, none⟩ = some (.slice A (M i j).length c) ∧ (M i j).length ≤ c ∧ TextsOff w qr A (M i j)

section
variable (w : World) (base qr n : Nat) (p : Nat → Nat) (M : Nat → Nat → List (List UInt8)) (h : RefAt w base qr n p M)
include h
theorem RefAt.par_cell : ∃ bk off cp, w.cell? ⟨qr, 0, none⟩ = some (.slice (some ⟨bk, off, none⟩) n cp) ∧ (∀ k, k < n → w.cell? ⟨bk, off + k, none⟩ = some (.int .i64 (par p k))) ∧ 1 ≤ n ∧ n ≤ 16 := by
  obtain ⟨Ap, cp, h1, _, h2, h3, hg, bk, off, rfl, hbk, h0, hc⟩ := h.tree
  refine ⟨bk, off, cp, h1, fun k hk => ?_, h2, h3⟩
  unfold par
  by_cases e : k = 0
  · subst e
    simpa using h0
  · rw [if_neg e, hc k (by omega) hk]
theorem rlink_far (f t : Int) (hft : f < 0 ∨ t < 0 ∨ (n : Int) ≤ f ∨ (n : Int) ≤ t) : Calls Try.prog 35 #[.pointer (some ⟨qr, 0, none⟩), .int .i64 f, .int .i64 t] w fun e w' => e = .returned (.bool false) ∧ w = w' := by
  obtain ⟨bk, off, cp, c0, _, _, _⟩ := h.par_cell
  rcases (show f < 0 ∨ (0 ≤ f ∧ t < 0) ∨ (0 ≤ f ∧ 0 ≤ t ∧ (n : Int) ≤ f) ∨ (0 ≤ f ∧ 0 ≤ t ∧ f < (n : Int) ∧ (n : Int) ≤ t) by omega) with h1 | ⟨h1, h2⟩ | ⟨h1, h2, h3⟩ | ⟨h1, h2, h3, h4⟩
  all_goals
    clear hft
    go_enter Try.func35, Try.ntmps35
    go_wp2
    go_ret
    exact ⟨rfl, rfl⟩
theorem rlink_near (f t : Nat) (hf : f < n) (ht : t < n) : Calls Try.prog 35 #[.pointer (some ⟨qr, 0, none⟩), .int .i64 f, .int .i64 t] w fun e w' => e = .returned (.bool ((par p f == t) || (par p t == f))) ∧ w = w' := by
  obtain ⟨bk, off, cp, c0, HC, _, _⟩ := h.par_cell
  have cf := HC f hf
  have ct := HC t ht
  have g1 : (f : Int) < (n : Int) := by omega
  have g2 : (t : Int) < (n : Int) := by omega
  clear HC
  generalize par p f = x at *
  generalize par p t = y at *
  cases h1 : (x == (t : Int))
  all_goals
    go_enter Try.func35, Try.ntmps35
    go_wp2
    go_ret
    simp
theorem rlong_in (f t : Nat) (hf : f < n) (ht : t < n) (hl : ((par p f == t) || (par p t == f)) = true) : Calls Try.prog 22 #[.pointer (some ⟨qr, 0, none⟩), .int .i64 f, .int .i64 t] w fun e w' => e = .returned (.int .i64 (M f t).length) ∧ w = w' := by
  obtain ⟨bk, off, cp, c0, _, _, hn⟩ := h.par_cell
  obtain ⟨A, c, cr, _, _⟩ := h.rows f t (by omega) (by omega)
  have e1 : (f : Int) < 16 := by omega
  have e2 : (t : Int) < 16 := by omega
  have hlk := rlink_near w base qr n p M h f t hf ht
  rw [hl] at hlk
  clear hl
  go_enter Try.func22, Try.ntmps22
  go_wp2_with fail
  refine hlk.mono ?_
  rintro e w1 ⟨rfl, rfl⟩
  go_wp2
  go_ret
  exact ⟨rfl, rfl⟩
end
theorem rlong_no (w : World) (qr : Nat) (f t : Int) (hl : Calls Try.prog 35 #[.pointer (some ⟨qr, 0, none⟩), .int .i64 f, .int .i64 t] w fun e w' => e = .returned (.bool false) ∧ w = w') : Calls Try.prog 22 #[.pointer (some ⟨qr, 0, none⟩), .int .i64 f, .int .i64 t] w fun e w' => e = .returned (.int .i64 0) ∧ w = w' := by
  go_enter Try.func22, Try.ntmps22
  go_wp2_with fail
  refine hl.mono ?_
  rintro e w1 ⟨rfl, rfl⟩
  go_wp2
  go_ret
  exact ⟨rfl, rfl⟩

theorem rcheck_ok (A : Option Addr) (c n B : Nat) (p : Nat → Nat) (w : World) (h : TreeAt w B A n p) :
    Calls Try.prog 28 #[.slice A n c] w fun e w' => e = .returned (.int .i64 0) ∧ w = w' := by
  obtain ⟨h1, h2, hg, b, off, rfl, hB, h0, hc⟩ := h
  have e1 : (0 : Int) < (n : Int) := by omega
  have HC := Lib.hid hc
  clear hc
  go_enter Try.func28, Try.ntmps28
  go_wp2
  go_loop [3] (fun i => ∃ k : Nat, 1 ≤ k ∧ k ≤ n ∧ i = .int .i64 k) (fun i => n - (intOf i).toNat)
  case atStart => exact ⟨1, by omega, by omega, rfl⟩
  case round =>
    obtain ⟨k, k1, hk, rfl⟩ := hrel
    by_cases hlt : k < n
    · have ck := HC.out k k1 hlt
      have hp := hg k k1 hlt
      generalize p k = x at ck hp
      go_wp2
      go_round
      case rel => exact ⟨k + 1, by omega, by omega, by go_num⟩
      case measure => simp [intOf]; omega
    · go_wp2
      go_ret
      exact ⟨rfl, rfl⟩
theorem rcheck_bad (A : Option Addr) (c n B : Nat) (f : Nat → Int) (w : World) (h : Arr w B A n f) (hm : n ≤ 9223372036854775807) (ht : ¬ IsTree n f) :
    Calls Try.prog 28 #[.slice A n c] w fun e w' => e = .returned (.int .i64 120) ∧ w = w' := by
  rcases (show n < 1 ∨ 16 < n ∨ (1 ≤ n ∧ n ≤ 16) by omega) with h1 | h1 | ⟨h1, h2⟩
  · clear h ht
    go_enter Try.func28, Try.ntmps28
    go_wp2
    go_ret
    exact ⟨rfl, rfl⟩
  · clear h ht
    go_enter Try.func28, Try.ntmps28
    go_wp2
    go_ret
    exact ⟨rfl, rfl⟩
  rcases h with h | ⟨b, off, rfl, hB, hc⟩
  · omega
  have e1 : (0 : Int) < (n : Int) := by omega
  have c0 := hc 0 (by omega)
  rw [Nat.add_zero] at c0
  have HC := Lib.hid hc
  clear hc
  by_cases ht0 : f 0 = -1
  · rw [ht0] at c0
    have HT : Hid (¬ ∀ k, 1 ≤ k → k < n → 0 ≤ f k ∧ f k < k) := fun hp => ht ⟨h1, h2, ht0, hp⟩
    clear ht ht0
    go_enter Try.func28, Try.ntmps28
    go_wp2
    go_loop [3] (fun i => ∃ k : Nat, 1 ≤ k ∧ k ≤ n ∧ i = .int .i64 k ∧ Hid (∀ j, 1 ≤ j → j < k → 0 ≤ f j ∧ f j < j)) (fun i => n - (intOf i).toNat)
    case atStart => exact ⟨1, by omega, by omega, rfl, fun j _ _ => by omega⟩
    case round =>
      obtain ⟨k, k1, hk, rfl, hall⟩ := hrel
      by_cases hlt : k < n
      · have ck := HC.out k hlt
        by_cases hgo : 0 ≤ f k ∧ f k < k
        · have hnext : Hid (∀ j, 1 ≤ j → j < k + 1 → 0 ≤ f j ∧ f j < j) := fun j j1 j2 => by
            by_cases e : j = k
            · rw [e]; exact hgo
            · exact hall.out j j1 (by omega)
          obtain ⟨g1, g2⟩ := hgo
          generalize f k = x at ck g1 g2
          go_wp2
          go_round
          case rel => exact ⟨k + 1, by omega, by omega, by go_num, hnext⟩
          case measure => simp [intOf]; omega
        · rcases (show f k < 0 ∨ (0 ≤ f k ∧ (k : Int) ≤ f k) by omega) with g1 | ⟨g1, g2⟩
          all_goals
            clear hgo
            generalize f k = x at *
            go_wp2
            go_ret
            exact ⟨rfl, rfl⟩
      · exfalso
        refine HT.out fun j j1 j2 => hall.out j j1 (by omega)
  · have hne : (f 0 == -1) = false := by simpa using ht0
    have hne' : (f 0 != -1) = true := by simpa using ht0
    clear ht ht0
    generalize f 0 = x at *
    go_enter Try.func28, Try.ntmps28
    go_wp2
    go_ret
    exact ⟨rfl, rfl⟩
theorem rnew_bad (A : Option Addr) (c n B : Nat) (f : Nat → Int) (w : World) (h : Arr w B A n f) (hm : n ≤ 9223372036854775807) (ht : ¬ IsTree n f) :
    Calls Try.prog 20 #[.slice A n c] w fun e w' => e = .returned (.tuple #[.pointer none, .int .i64 120]) ∧ w = w' := by
  have hc := rcheck_bad A c n B f w h hm ht
  clear ht
  go_enter Try.func20, Try.ntmps20
  go_wp2_with fail
  refine hc.mono ?_
  rintro e w1 ⟨rfl, rfl⟩
  go_wp2
  go_ret2
  exact ⟨rfl, rfl⟩
theorem Try.info3 : (Try.prog.info? 3).map (fun i => (i.zero, i.size, i.bytes)) = some (some (.int .i64 0), 1, 8) := by kernel_rfl
def zeros256 : List Value := List.replicate 256 (.slice none 0 0)
theorem built67 (A : Option Addr) (n c : Nat) : (Program.built Try.prog 67 [(0, .slice A n c)]).map Array.toList = some (.slice A n c :: zeros256) := by kernel_rfl
theorem build67 (A : Option Addr) (n c : Nat) (w : World) : ∃ cs : Array Value, (Instr.build 67 #[(0, .slice A n c)]).run Try.prog w = .ok (.agg cs) w ∧ cs.toList = .slice A n c :: zeros256 := by
  obtain ⟨cs, h1, h2⟩ := Option.map_eq_some_iff.1 (built67 A n c)
  exact ⟨cs, run_build w 67 _ _ h1, h2⟩
theorem wpList_build {P : Program} {ops : Array Oper} {rest : List Oper} {o : Oper} {a : Act} {Q : Exit → Act → World → Prop} {w : World} (hgd : o.guard = none) (t : TypeId) (x : Operand) (hop : o.op = Op.build t #[(0, x)]) (v : Value) (hv : a.eval x = v) (cs : Array Value)
    (hrun : (Instr.build t #[(0, v)]).run P w = .ok (.agg cs) w) (h : wpList P ops Q rest (a.put o.dst (.agg cs)) w) : wpList P ops Q (o :: rest) a w := by
  refine wpList_plain hgd fun K hK => ?_
  unfold Oper.wp execOp
  simp [hop, hv, hrun, Result.andThen]
  exact hK _ _ h
/-- Parents as cells. -/
def parV (p : Nat → Nat) (n : Nat) : List Value := (List.range n).map fun k => .int .i64 (par p k)
theorem parV_length (p : Nat → Nat) (n : Nat) : (parV p n).length = n := by simp [parV]
theorem TreeAt.lies {w : World} {B n : Nat} {A : Option Addr} {p : Nat → Nat} (h : TreeAt w B A n p) : Lies w B A (parV p n) := by
  obtain ⟨h1, h2, hg, b, off, hA, hB, h0, hc⟩ := h
  refine .inr ⟨b, off, hA, hB, fun j u hu => ?_⟩
  have hj : j < n := by
    have := (List.getElem?_eq_some_iff.1 hu).1
    simpa [parV] using this
  simp only [parV, List.getElem?_map, List.getElem?_range hj, Option.map_some, Option.some.injEq] at hu
  subst hu
  unfold par
  by_cases e : j = 0
  · subst e
    simpa using h0
  · rw [if_neg e, hc j (by omega) hj]
theorem tree_of_own {w : World} {base n c : Nat} {A : Option Addr} {p : Nat → Nat} (h1 : 1 ≤ n) (h2 : n ≤ 16) (hg : Good p n) (h : w.ownsRow base 3 1 (.slice A n c) n (parV p n)) : TreeAt w w.heap.size A n p := by
  obtain ⟨g, rfl, _, hlt, _, hc, _⟩ := own_addr h (by omega)
  have hget : ∀ k, k < n → (parV p n)[k]? = some (.int .i64 (par p k)) := fun k hk => by simp [parV, hk]
  refine ⟨h1, h2, hg, g, 0, rfl, hlt, ?_, fun k k1 k2 => ?_⟩
  · have := hc 0 _ (hget 0 (by omega))
    simpa [par] using this
  · have := hc k _ (hget k k2)
    rw [Nat.zero_add, this]
    unfold par
    rw [if_neg (by omega)]
theorem TextsOff.nil (w : World) (q : Nat) (A : Option Addr) : TextsOff w q A [] := ⟨[], .inl rfl, rfl, fun i u t h => by simp at h⟩
set_option maxRecDepth 100000 in
theorem rnew_ok (A : Option Addr) (c n B : Nat) (p : Nat → Nat) (w : World) (h : TreeAt w B A n p) (hB : B ≤ w.heap.size) (_hc : n ≤ c) :
    Calls Try.prog 20 #[.slice A n c] w fun e w' => ∃ qr, e = .returned (.tuple #[.pointer (some ⟨qr, 0, none⟩), .int .i64 0]) ∧ RefAt w' w.heap.size qr n p (fun _ _ => []) ∧ Below w.heap.size w w' := by
  obtain ⟨i0, hi0, hz0, hz1, hz2⟩ := info_parts Try.info3
  have hck := rcheck_ok A c n B p w h
  have hown := World.ownsRow_made (e := 3) (size := 1) w #[] 0 (Nat.le_refl _) (Nat.zero_le _) rfl
  have h16 := h.2.1
  have h1 := h.1
  have HG := Lib.hid h.2.2.1
  go_enter Try.func20, Try.ntmps20
  go_wp2_with fail
  refine hck.mono ?_
  rintro e w1 ⟨rfl, rfl⟩
  go_wp2_with (at_builtin; refine wpList_append_from _ rfl (.tmp 7) (.tmp 8) 29 rfl w.heap.size 3 i0 _ 8 Try.underlying29 hi0 hz0 hz1 hz2 rfl _ 0 [] rfl hown B A n c (parV p n) rfl (parV_length p n) (h.lies.alloc hB _) (fun u hu => by simp only [parV, List.mem_map] at hu; obtain ⟨_, _, rfl⟩ := hu; rfl) (by unfold maxLen; omega) (by omega) (by simp) ?_; intro A1 c1 w1 hown1 hgrow1 hat1; simp only [Nat.zero_add, List.nil_append] at hown1 ⊢; obtain ⟨cs, hcs, hcl⟩ := build67 A1 n c1 w1; refine wpList_build rfl 67 (.tmp 9) rfl _ rfl cs hcs ?_)
  have hb1 := ((Below.refl w.heap.size w).alloc (Nat.le_refl _) (.cells #[] 3)).trans (below_append hown hgrow1 (Nat.le_refl _) (by simp))
  go_ret2
  have hb2 : Below w1.heap.size w1 (w1.alloc (.cells cs 67)) := (Below.refl _ _).alloc (Nat.le_refl _) _
  have hcell : ∀ k, (w1.alloc (.cells cs 67)).cell? ⟨w1.heap.size, k, none⟩ = (Value.slice A1 n c1 :: zeros256)[k]? := fun k => by
    rw [(Blk.made w1 67 cs).cell k, ← Array.getElem?_toList, hcl]
  refine ⟨_, rfl, ⟨hb1.size, ⟨A1, c1, hcell 0, own_cap hown1, ((tree_of_own h1 h16 HG.out hown1).below hb2).more hb2.size⟩, ⟨cs, Blk.made _ _ _, ?_⟩, fun i j hi hj => ⟨none, 0, ?_, Nat.le_refl _, TextsOff.nil _ _ _⟩⟩, hb1.alloc hb1.size _⟩
  · have := congrArg List.length hcl
    rw [List.length_cons, zeros256, List.length_replicate] at this
    exact this
  · have hij : i * 16 + j < 256 := by omega
    rw [hcell, show 1 + i * 16 + j = (i * 16 + j) + 1 by omega, List.getElem?_cons_succ]
    unfold zeros256
    rw [List.getElem?_replicate, if_pos hij]
    rfl
end Go.Proofs.Ytbniaojldjhemaa
