/- The walks of package tree: Reverse, Way, Step; and Same of the document's. -/
import Derived.Test.YtofgclmibemniaaTree
import Derived.ScopeJumps
import Derived.RegionTactic
import Derived.ChangeAlike
namespace Go.Proofs.Ytofgclmibemniaa
open Go.RowKit

theorem Try.info3 : (Try.prog.info? 3).map (fun i => (i.zero, i.size, i.bytes)) = some (some (.int .i64 0), 1, 8) := by kernel_rfl

/-- Numbers as cells. -/
def natsV (l : List Nat) : List Value := l.map fun k : Nat => .int .i64 (k : Int)
theorem natsV_length (l : List Nat) : (natsV l).length = l.length := by simp [natsV]
theorem natsV_append (a b : List Nat) : natsV (a ++ b) = natsV a ++ natsV b := by simp [natsV]
theorem natsV_get (l : List Nat) {k : Nat} (h : k < l.length) : (natsV l)[k]? = some (.int .i64 ((l[k]?.getD 0 : Nat) : Int)) := by simp [natsV, h]
theorem natsV_one (l : List Nat) : ∀ u ∈ natsV l, u.oneCell' = true := by
  intro u hu
  simp only [natsV, List.mem_map] at hu
  obtain ⟨c, _, rfl⟩ := hu
  rfl
theorem Arr.of_lies {w : World} {B : Nat} {A : Option Addr} {l : List Nat} (h : Lies w B A (natsV l)) : Arr w B A l.length (fun k => ((l[k]?.getD 0 : Nat) : Int)) := by
  by_cases h0 : l.length = 0
  · exact .inl h0
  · obtain ⟨b, off, hA, hB, hc⟩ := h.open_ (by rw [natsV_length]; omega)
    exact .inr ⟨b, off, hA, hB, fun k hk => hc k _ (natsV_get l hk)⟩

theorem same_yes (A A2 : Option Addr) (c c2 B B2 n : Nat) (f : Nat → Int) (w : World) (h : Arr w B A n f) (h2 : Arr w B2 A2 n f) (hm : n ≤ 1000) :
    Calls Try.prog 16 #[.slice A n c, .slice A2 n c2] w fun e w' => e = .returned (.bool true) ∧ ∃ k, w' = w.drewN k := by
  go_enter Try.func16, Try.ntmps16
  go_wp2
  go_loopw [5] (fun i wr => ∃ k : Nat, k ≤ n ∧ i = .int .i64 k ∧ ∃ j, wr = w.drewN j) (fun i _ => n - (intOf i).toNat)
  case atStart => exact ⟨0, by omega, rfl, 0, rfl⟩
  case round =>
    obtain ⟨k, hk, rfl, j, rfl⟩ := hrel
    by_cases hlt : k < n
    · rcases h with h | ⟨b, off, rfl, hB, hc⟩
      · omega
      rcases h2 with h2 | ⟨b2, off2, rfl, hB2, hc2⟩
      · omega
      have ck := hc k hlt
      have ck2 := hc2 k hlt
      clear hc hc2
      have e1 : (k : Int) < (n : Int) := by omega
      generalize f k = x at *
      go_wp2
      go_quiet (fail)
      go_wp2
      go_roundw
      case rel => exact ⟨k + 1, by omega, by go_num, _, rfl⟩
      case measure => simp [intOf]; omega
    · clear h h2
      go_wp2
      go_ret
      exact ⟨rfl, _, rfl⟩

/-- Swapped as far as i. -/
def swapped (l : List Nat) (i : Nat) : List Nat := (List.range l.length).map fun j => if j < i ∨ l.length ≤ i + j then l[l.length - 1 - j]?.getD 0 else l[j]?.getD 0
theorem swapped_length (l : List Nat) (i : Nat) : (swapped l i).length = l.length := by simp [swapped]
theorem swapped_zero (l : List Nat) : swapped l 0 = l := by
  apply List.ext_getElem
  · exact swapped_length l 0
  · intro i h1 h2
    have : ¬ l.length ≤ i := by omega
    simp [swapped, this, h2]
theorem swapped_get (l : List Nat) (i : Nat) {j : Nat} (h : j < l.length) : (swapped l i)[j]?.getD 0 = if j < i ∨ l.length ≤ i + j then l[l.length - 1 - j]?.getD 0 else l[j]?.getD 0 := by simp [swapped, h]
theorem swapped_all (l : List Nat) (i : Nat) (h : l.length ≤ 2 * i + 1) : swapped l i = l.reverse := by
  apply List.ext_getElem
  · rw [swapped_length, List.length_reverse]
  · intro j h1 h2
    have hj : j < l.length := by rw [swapped_length] at h1; exact h1
    have e := swapped_get l i hj
    have hg : (swapped l i)[j]?.getD 0 = (swapped l i)[j] := by simp [h1]
    rw [hg] at e
    rw [e, List.getElem_reverse]
    split
    · simp [show l.length - 1 - j < l.length by omega]
    · have : j = l.length - 1 - j := by omega
      have hh : l[j]?.getD 0 = l[j] := by simp [hj]
      rw [hh]
      congr 1
theorem swapped_succ (l : List Nat) (i : Nat) (h : 2 * i + 1 < l.length) : swapped l (i + 1) = ((swapped l i).set i (l[l.length - 1 - i]?.getD 0)).set (l.length - 1 - i) (l[i]?.getD 0) := by
  apply List.ext_getElem
  · simp [swapped_length]
  · intro j h1 h2
    have hj : j < l.length := by rw [swapped_length] at h1; exact h1
    have e := swapped_get l (i + 1) hj
    have hg : (swapped l (i + 1))[j]?.getD 0 = (swapped l (i + 1))[j] := by simp [h1]
    have e2 := swapped_get l i hj
    have hg2 : (swapped l i)[j]?.getD 0 = (swapped l i)[j]'(by rw [swapped_length]; exact hj) := by simp [swapped_length, hj]
    rw [hg] at e
    rw [hg2] at e2
    rw [e, List.getElem_set, List.getElem_set, e2]
    by_cases a1 : l.length - 1 - i = j
    · rw [if_pos a1, if_pos (by omega), show l.length - 1 - j = i by omega]
    · rw [if_neg a1]
      by_cases a2 : i = j
      · rw [if_pos a2, if_pos (by omega), a2]
      · rw [if_neg a2]
        by_cases a3 : j < i ∨ l.length ≤ i + j
        · rw [if_pos a3, if_pos (by omega)]
        · rw [if_neg a3, if_neg (by omega)]
theorem natsV_set (l : List Nat) (i x : Nat) : (natsV l).set i (.int .i64 (x : Int)) = natsV (l.set i x) := by simp [natsV, List.map_set]

theorem nats_put {w : World} {base n c g i : Nat} {l : List Nat} (h : w.ownsRow base 3 1 (.slice (some ⟨g, 0, none⟩) n c) n (natsV l)) (x : Nat) :
    (w.setCell ⟨g, i, none⟩ (.int .i64 (x : Int))).ownsRow base 3 1 (.slice (some ⟨g, 0, none⟩) n c) n (natsV (l.set i x)) := by
  have := (h.stored i (.int .i64 (x : Int))).1
  rwa [natsV_set] at this

theorem reverse_any (v : Value) (A : Option Addr) (c base : Nat) (l : List Nat) (w : World) (hv : v = .slice A l.length c) (h : w.ownsRow base 3 1 v l.length (natsV l)) (hB : base ≤ w.heap.size) (hm : l.length ≤ 1000) :
    Calls Try.prog 18 #[.slice A l.length c] w fun e w' => e = .returned (.tuple #[]) ∧ w'.ownsRow base 3 1 v l.length (natsV l.reverse) ∧ Below base w w' := by
  subst hv
  by_cases h0 : l.length = 0
  · obtain rfl : l = [] := List.length_eq_zero_iff.1 h0
    have e1 : ¬ ((0 : Int) < -1) := by omega
    clear h0
    go_enter Try.func18, Try.ntmps18
    go_wp2
    go_loopw [2, 3] (fun i j wr => i = .int .i64 0 ∧ j = .int .i64 (-1) ∧ wr = w) (fun _ _ _ => 0)
    case atStart => exact ⟨rfl, rfl, rfl⟩
    case round =>
      obtain ⟨rfl, rfl, rfl⟩ := hrel
      go_wp2
      go_end0
      exact ⟨rfl, h, Below.refl _ _⟩
  · obtain ⟨g, rfl, hg, hgs, hnc, hcell, hfree⟩ := own_addr h (by omega)
    have hlen := Lib.hid hnc
    clear hcell hfree hnc
    generalize hn : l.length = n at *
    have hN := Lib.hid hn
    clear hn
    go_enter Try.func18, Try.ntmps18
    go_wp2
    go_loopw [2, 3] (fun i j wr => ∃ k : Nat, 2 * k ≤ n ∧ i = .int .i64 k ∧ j = .int .i64 ((n : Int) - 1 - k) ∧ wr.ownsRow base 3 1 (.slice (some ⟨g, 0, none⟩) n c) n (natsV (swapped l k)) ∧ Below base w wr) (fun i _ _ => n - (intOf i).toNat)
    case atStart => exact ⟨0, by omega, rfl, by simp, by rw [swapped_zero]; exact h, Below.refl _ _⟩
    case round =>
      obtain ⟨k, hk, rfl, rfl, ho, hb⟩ := hrel
      have hN' := hN.out
      by_cases hlt : 2 * k + 1 < n
      · obtain ⟨g', hg', hgb, hgs', hnc, hcell, hfree⟩ := own_addr ho (by omega)
        obtain rfl : g = g' := by injection hg' with e; injection e
        have hl1 : k < (swapped l k).length := by rw [swapped_length]; omega
        have hl2 : n - 1 - k < (swapped l k).length := by rw [swapped_length]; omega
        have ck := hcell k _ (natsV_get _ hl1)
        have cj := hcell (n - 1 - k) _ (natsV_get _ hl2)
        rw [swapped_get l k (by omega), if_neg (by omega)] at ck
        rw [swapped_get l k (by omega), if_neg (by omega)] at cj
        have fk := hfree k
        have fj := hfree (n - 1 - k)
        have hs := swapped_succ l k (by omega)
        rw [hN'] at hs
        have HS := Lib.hid hs
        have e2 : (k : Int) < (n : Int) - 1 - k := by omega
        have e3 : ((n : Int) - 1 - k) = ((n - 1 - k : Nat) : Int) := by omega
        have hne : k ≠ n - 1 - k := by omega
        have hj : n - 1 - k < n := by omega
        have hjc : n - 1 - k < c := by omega
        rw [e3]
        generalize hjj : n - 1 - k = j at *
        have HJ := Lib.hid hjj
        generalize l[k]?.getD 0 = x at *
        generalize l[j]?.getD 0 = y at *
        have e4 : (k : Int) < (j : Int) := by omega
        clear hcell hfree hs e2 e3 hN' hjj
        go_wp2_with fail
        go_region
        have o1 := nats_put ho (i := k) y
        have o2 := nats_put o1 (i := j) x
        rw [← HS.out] at o2
        have hb2 := (hb.setCell (p := ⟨g, k, none⟩) hgb (.int .i64 (y : Int))).setCell (p := ⟨g, j, none⟩) hgb (.int .i64 (x : Int))
        clear ho o1 ck cj
        go_wp2_with fail
        go_roundw
        case rel => exact ⟨k + 1, by omega, by go_num, by have := HJ.out; congr 1; omega, o2, hb2.drew⟩
        case measure => simp [intOf]; omega
      · go_wp2
        go_end0
        refine ⟨rfl, ?_, hb⟩
        have := swapped_all l k (by omega)
        rw [this] at ho
        exact ho

/-- The way up. -/
def climb (p : Nat → Nat) (a b : Nat) : List Nat := low p a (top p a b) ++ [top p a b]
theorem climb_up (p : Nat → Nat) {a b : Nat} (h : a ∈ anc p b) : climb p a b = [a] := by
  unfold climb
  rw [top_up p h, low_self]
  rfl
theorem climb_step (p : Nat → Nat) {a b : Nat} (h : ¬ a ∈ anc p b) (hp : p a < a) : climb p a b = a :: climb p (p a) b := by
  have ht := top_step p h hp
  have hle := anc_le p _ _ (top_spec p (p a) b).1
  unfold climb
  rw [ht, low_step p (by omega) hp]
  rfl
theorem climb_length (p : Nat → Nat) (a b : Nat) : (climb p a b).length ≤ a + 1 := by
  have h := congrArg List.length (low_split p (top_spec p a b).1)
  rw [List.length_append, anc_length, anc_length] at h
  have := dep_le p a
  unfold climb
  rw [List.length_append, List.length_singleton]
  omega
theorem low_length (p : Nat → Nat) {a c : Nat} (hc : c ∈ anc p a) : (low p a c).length ≤ a := by
  have h := congrArg List.length (low_split p hc)
  rw [List.length_append, anc_length, anc_length] at h
  have := dep_le p a
  omega
theorem way_climb (p : Nat → Nat) (a b : Nat) : way p a b = climb p a b ++ (low p b (top p a b)).reverse := by
  unfold way climb
  simp

theorem way_bad (A : Option Addr) (c n B : Nat) (p : Nat → Nat) (w : World) (ht : TreeAt w B A n p) (a b : Int) (h : (a < 0 ∨ (n : Int) ≤ a) ∨ (b < 0 ∨ (n : Int) ≤ b)) :
    Calls Try.prog 11 #[.slice A n c, .int .i64 a, .int .i64 b] w fun e w' => e = .returned (.tuple #[.slice none 0 0, .int .i64 1]) ∧ w = w' := by
  by_cases ha : a < 0 ∨ (n : Int) ≤ a
  · clear h
    go_enter Try.func11, Try.ntmps11
    go_wp2_with fail
    go_step3
    go_wp2_with fail
    refine (broker_no A c n w a ha).mono ?_
    rintro e w1 ⟨rfl, rfl⟩
    go_wp2
    try rw [Exit.noGoto_ret]
    go_ret2
    exact ⟨rfl, rfl⟩
  · have hb : b < 0 ∨ (n : Int) ≤ b := by omega
    obtain ⟨k, rfl⟩ : ∃ k : Nat, a = k := ⟨a.toNat, by omega⟩
    have hk : k < n := by omega
    clear ha h
    go_enter Try.func11, Try.ntmps11
    go_wp2_with fail
    go_step3
    go_wp2_with fail
    refine (broker_yes _ c n B p w ht k hk).mono ?_
    rintro e w1 ⟨rfl, rfl⟩
    go_wp2_with fail
    refine (broker_no A c n w b hb).mono ?_
    rintro e w1 ⟨rfl, rfl⟩
    go_wp2
    try rw [Exit.noGoto_ret]
    go_ret2
    exact ⟨rfl, rfl⟩

set_option maxHeartbeats 2000000 in
theorem way_any (A : Option Addr) (c n : Nat) (p : Nat → Nat) (w : World) (ht : TreeAt w w.heap.size A n p) (a b : Nat) (ha : a < n) (hb : b < n) :
    Calls Try.prog 11 #[.slice A n c, .int .i64 a, .int .i64 b] w fun e w' => ∃ A' c', e = .returned (.tuple #[.slice A' (way p a b).length c', .int .i64 0]) ∧
      w'.ownsRow w.heap.size 3 1 (.slice A' (way p a b).length c') (way p a b).length (natsV (way p a b)) ∧ Below w.heap.size w w' := by
  obtain ⟨i0, hi0, hz0, hz1, hz2⟩ := info_parts Try.info3
  have HT := Lib.hid ht
  obtain ⟨h1, hn16, hg, bk, off, rfl, hB, h0, hc⟩ := ht
  have HC0 := Lib.hid hc
  have HG := Lib.hid hg
  clear h0 hc hg
  go_enter Try.func11, Try.ntmps11
  go_wp2_with fail
  go_step3
  go_wp2_with fail
  refine (broker_yes _ c n _ p w HT.out a ha).mono ?_
  rintro e w1 ⟨rfl, rfl⟩
  go_wp2_with fail
  refine (broker_yes _ c n _ p w HT.out b hb).mono ?_
  rintro e w1 ⟨rfl, rfl⟩
  go_wp2
  go_step3
  go_wp2
  go_loopw [8, 10] (fun o at_ wr => ∃ (X : List Nat) (A' : Option Addr) (c' j : Nat), o = .slice A' X.length c' ∧ wr.ownsRow w.heap.size 3 1 (.slice A' X.length c') X.length (natsV X) ∧ at_ = .int .i64 j ∧ j < n ∧ Below w.heap.size w wr ∧ Hid (X ++ climb p j b = climb p a b) ∧ Hid (top p j b = top p a b)) (fun _ j _ => (intOf j).toNat)
  case atStart => exact ⟨[], none, 0, a, rfl, World.ownsRow_nil _ _ _ _, rfl, ha, Below.refl _ _, ⟨rfl, rfl⟩⟩
  case round =>
    obtain ⟨X, A1, c1, j, rfl, ho, rfl, hj, hbw, HC, HP⟩ := hrel
    have hXl : X.length ≤ 16 := by
      have h1 := congrArg List.length HC.out
      rw [List.length_append] at h1
      have h2 := climb_length p a b
      omega
    have hs := hbw.size
    go_wp2_with (at_builtin; refine wpList_append_from _ rfl (.tmp 23) (.tmp 25) 23 rfl w.heap.size 3 i0 _ 8 Try.underlying23 hi0 hz0 hz1 hz2 rfl _ X.length (natsV X) rfl (ho.alloc _) (wr.heap.size + 1) (some ⟨wr.heap.size, 0, none⟩) 1 1 [.int .i64 (j : Int)] rfl rfl (Lies.one wr 3 _) (by simp [Value.oneCell']) (by unfold maxLen; omega) (by omega) (by simp; omega) ?_; intro A2 c2 w2 hown2 hg2 hat2)
    have hb2 : Below w.heap.size w w2 := (hbw.alloc hs _).trans (below_append (ho.alloc _) hg2 (Nat.le_refl _) (by simp; omega))
    have ho2 : w2.ownsRow w.heap.size 3 1 (.slice A2 (X.length + 1) c2) (X.length + 1) (natsV (X ++ [j])) := by rw [natsV_append]; exact hown2
    clear hown2 hg2 hat2 ho hbw
    by_cases hu : upB p j b = true
    · have hup := upB_iff.1 hu
      have htop : top p a b = j := by rw [← HP.out, top_up p hup]
      have HTOP := Lib.hid htop
      have hX : X ++ [j] = climb p a b := by rw [← HC.out, climb_up p hup]
      have HX := Lib.hid hX
      have HUP := Lib.hid hup
      clear hup htop hX
      go_wp2_with fail
      refine (up_any _ c n _ p w2 (HT.out.below hb2) j b hj hb).mono ?_
      rintro e w3 ⟨rfl, rfl⟩
      go_wp2_with fail
      go_loopw [9, 11] (fun d i_ wr => ∃ (Y : List Nat) (A' : Option Addr) (c' i : Nat), d = .slice A' Y.length c' ∧ wr.ownsRow w2.heap.size 3 1 (.slice A' Y.length c') Y.length (natsV Y) ∧ i_ = .int .i64 i ∧ i < n ∧ Below w2.heap.size w2 wr ∧ Hid (j ∈ anc p i) ∧ Hid (Y ++ low p i j = low p b j)) (fun _ i _ => (intOf i).toNat)
      case atStart => exact ⟨[], none, 0, b, rfl, World.ownsRow_nil _ _ _ _, rfl, hb, Below.refl _ _, HUP, rfl⟩
      case round =>
        rename_i wr
        obtain ⟨Y, A3, c3, i, rfl, ho3, rfl, hi, hb3, HJ, HL⟩ := hrel
        have hYl : Y.length ≤ 16 := by
          have h1 := congrArg List.length HL.out
          rw [List.length_append] at h1
          have h2 := low_length p HUP.out
          omega
        have hs3 := hb3.size
        by_cases hij : i = j
        · have e1 : ((i : Int) != (j : Int)) = false := by simp [hij]
          have hY : Y = low p b j := by
            have := HL.out
            rw [hij, low_self, List.append_nil] at this
            exact this
          have HY := Lib.hid hY
          clear hY hij
          go_wp2_with fail
          refine (reverse_any _ A3 c3 w2.heap.size Y wr rfl ho3 hs3 (by omega)).mono ?_
          rintro e w4 ⟨rfl, ho4, hb4⟩
          have hb24 := hb3.trans hb4
          have ho2' := own_below ho2 hb24
          go_wp2_with (at_builtin; refine wpList_append_from _ rfl (.tmp 49) (.tmp 50) 23 rfl w.heap.size 3 i0 _ 8 Try.underlying23 hi0 hz0 hz1 hz2 rfl _ (X.length + 1) (natsV (X ++ [j])) rfl ho2' w4.heap.size A3 Y.length c3 (natsV Y.reverse) rfl (by rw [natsV_length, List.length_reverse]) (Lies.of_own ho4) (natsV_one _) (by unfold maxLen; omega) (by omega) (Nat.le_trans hb2.size hb24.size) ?_; intro A5 c5 w5 hown5 hg5 hat5)
          try rw [Exit.noGoto_ret]
          go_ret2
          have hW : X ++ [j] ++ Y.reverse = way p a b := by rw [way_climb, ← HX.out, HTOP.out, ← HY.out]
          have hlen : X.length + 1 + Y.length = (way p a b).length := by rw [← hW]; simp only [List.length_append, List.length_reverse, List.length_singleton]
          rw [← natsV_append, hW, hlen] at hown5
          refine ⟨A5, c5, ret_val (by rw [← hlen]; rfl), hown5, ?_⟩
          exact (hb2.trans (hb24.mono hb2.size)).trans (below_append ho2' hg5 (Nat.le_refl _) (Nat.le_trans hb2.size hb24.size))
        · have e1 : ((i : Int) != (j : Int)) = true := by rw [bne_iff_ne]; omega
          have hji := anc_le p i j HJ.out
          have hlt : j < i := by omega
          have hp := HG.out i (by omega) hi
          have hst := anc_step p (by omega) hp
          have hJ' : j ∈ anc p (p i) := by
            have := HJ.out
            rw [hst] at this
            rcases List.mem_cons.1 this with h | h
            · omega
            · exact h
          have HJ2 := Lib.hid hJ'
          have hL' : (Y ++ [i]) ++ low p (p i) j = low p b j := by
            rw [← HL.out, low_step p hlt hp]
            simp
          have HL2 := Lib.hid hL'
          have c0 := HC0.out i (by omega) hi
          clear hJ' hL' hst hij hji
          generalize p i = x at *
          go_wp2_with (at_builtin; refine wpList_append_from _ rfl (.tmp 43) (.tmp 45) 23 rfl w2.heap.size 3 i0 _ 8 Try.underlying23 hi0 hz0 hz1 hz2 rfl _ Y.length (natsV Y) rfl (ho3.alloc _) (wr.heap.size + 1) (some ⟨wr.heap.size, 0, none⟩) 1 1 [.int .i64 (i : Int)] rfl rfl (Lies.one wr 3 _) (by simp [Value.oneCell']) (by unfold maxLen; omega) (by omega) (by simp; omega) ?_; intro A4 c4 w4 hown4 hg4 hat4; have hb4 : Below w2.heap.size w2 w4 := (hb3.alloc hs3 _).trans (below_append (ho3.alloc _) hg4 (Nat.le_refl _) (by simp; omega)); have c6 := ((hb4.mono hb2.size).cell (p := ⟨bk, off + i, none⟩) hB).trans ((hb2.cell (p := ⟨bk, off + i, none⟩) hB).trans c0))
          go_roundw
          case rel => exact ⟨Y ++ [i], A4, c4, x, by rw [List.length_append]; rfl, by rw [List.length_append, natsV_append]; exact hown4, rfl, by omega, hb4, HJ2, HL2⟩
          case measure => simp [intOf]; omega
    · have hu' : upB p j b = false := by simpa using hu
      have hnup := upB_not.1 hu'
      have hj0 : 0 < j := by
        rcases Nat.eq_zero_or_pos j with e | h
        · rw [e] at hnup
          exact absurd (anc_root p b) hnup
        · exact h
      have hp := HG.out j hj0 hj
      have hC' : (X ++ [j]) ++ climb p (p j) b = climb p a b := by
        rw [← HC.out, climb_step p hnup hp]
        simp
      have hP' : top p (p j) b = top p a b := by rw [← HP.out, top_step p hnup hp]
      have HC2 := Lib.hid hC'
      have HP2 := Lib.hid hP'
      have c0 := HC0.out j hj0 hj
      have c6 := (hb2.cell (p := ⟨bk, off + j, none⟩) hB).trans c0
      clear hC' hP' hnup hu
      generalize p j = x at *
      go_wp2_with fail
      refine (up_any _ c n _ p w2 (HT.out.below hb2) j b hj hb).mono ?_
      rintro e w3 ⟨rfl, rfl⟩
      go_wp2_with fail
      go_roundw
      case rel => exact ⟨X ++ [j], A2, c2, x, by rw [List.length_append]; rfl, by rw [List.length_append]; exact ho2, rfl, by omega, hb2, HC2, HP2⟩
      case measure => simp [intOf]; omega

theorem step_bad (A : Option Addr) (c n : Nat) (p : Nat → Nat) (w : World) (ht : TreeAt w w.heap.size A n p) (a b : Int) (h : (a < 0 ∨ (n : Int) ≤ a) ∨ (b < 0 ∨ (n : Int) ≤ b)) :
    Calls Try.prog 12 #[.slice A n c, .int .i64 a, .int .i64 b] w fun e w' => e = .returned (.tuple #[.int .i64 0, .int .i64 1]) ∧ Below w.heap.size w w' := by
  go_enter Try.func12, Try.ntmps12
  go_wp2_with fail
  refine (way_bad A c n _ p w ht a b h).mono ?_
  rintro e w1 ⟨rfl, rfl⟩
  go_wp2
  go_ret2
  exact ⟨rfl, Below.refl _ _⟩
theorem step_same (A : Option Addr) (c n : Nat) (p : Nat → Nat) (w : World) (ht : TreeAt w w.heap.size A n p) (a : Nat) (ha : a < n) :
    Calls Try.prog 12 #[.slice A n c, .int .i64 a, .int .i64 a] w fun e w' => e = .returned (.tuple #[.int .i64 0, .int .i64 1]) ∧ Below w.heap.size w w' := by
  go_enter Try.func12, Try.ntmps12
  go_wp2_with fail
  refine (way_any A c n p w ht a a ha ha).mono ?_
  rintro e w1 ⟨A1, c1, rfl, ho, hb⟩
  go_wp2
  go_ret2
  exact ⟨rfl, hb⟩
theorem step_any (A : Option Addr) (c n : Nat) (p : Nat → Nat) (w : World) (ht : TreeAt w w.heap.size A n p) (a b : Nat) (ha : a < n) (hb : b < n) (hne : a ≠ b) (s : Nat) (t : List Nat) (hw : way p a b = a :: s :: t) :
    Calls Try.prog 12 #[.slice A n c, .int .i64 a, .int .i64 b] w fun e w' => e = .returned (.tuple #[.int .i64 s, .int .i64 0]) ∧ Below w.heap.size w w' := by
  have e1 : ((a : Int) == (b : Int)) = false := by rw [beq_eq_false_iff_ne]; omega
  have HW := Lib.hid hw
  have HT := Lib.hid ht
  clear hw hne ht
  go_enter Try.func12, Try.ntmps12
  go_wp2_with fail
  refine (way_any A c n p w HT.out a b ha hb).mono ?_
  rintro e w1 ⟨A1, c1, rfl, ho, hbw⟩
  have hl : 1 < (way p a b).length := by rw [HW.out]; simp
  obtain ⟨g, rfl, hg, hgs, hnc, hcell, hfree⟩ := own_addr ho (by omega)
  have c1' := hcell 1 (.int .i64 (s : Int)) (by rw [HW.out]; rfl)
  have hl' : (1 : Int) < ((way p a b).length : Int) := by omega
  clear hcell hfree ho
  generalize (way p a b).length = m at *
  go_wp2
  go_ret2
  exact ⟨rfl, hbw⟩
end Go.Proofs.Ytofgclmibemniaa
