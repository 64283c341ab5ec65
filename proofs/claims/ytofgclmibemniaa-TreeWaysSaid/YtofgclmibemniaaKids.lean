/- The walks of package tree: Kids, a range over a function of the package's own. -/
import Derived.RangeFuncBox
import Derived.RangeFuncLeaves
import Derived.RangeFuncNested
import Derived.RangeFuncBound
import Derived.RangeFuncCalls
import Derived.Shelf.Abstract
import Derived.Shelf.RegionOpen
import Derived.WalkKit
import Derived.OwnWalkIn
import Derived.TacticsInMore
import Derived.LoopNIn
import Derived.LoopIn
import Derived.Maps.AppendAt
import Derived.Test.YtofgclmibemniaaWay
namespace Go.Proofs.Ytofgclmibemniaa
open Go.RowKit Go.Shelf
attribute [local go_sem] Oper.semAt_some

/-- Block by block as it was, below N but at q. -/
def Kept (N q : Nat) (W W' : World) : Prop := ∀ b, b < N → b ≠ q → W'.heap[b]? = W.heap[b]?
theorem Kept.refl (N q : Nat) (W : World) : Kept N q W W := fun _ _ _ => rfl
theorem Kept.trans {N q : Nat} {A B C : World} (h : Kept N q A B) (k : Kept N q B C) : Kept N q A C := fun b h1 h2 => (k b h1 h2).trans (h b h1 h2)
theorem Kept.cell {N q : Nat} {W W' : World} (h : Kept N q W W') {b o : Nat} (hb : b < N) (hq : b ≠ q) : W'.cell? ⟨b, o, none⟩ = W.cell? ⟨b, o, none⟩ := World.cell?_of_block (w := W) (h b hb hq)
theorem Kept.put {N q : Nat} (W : World) (l : Nat) (o o' : Obj) (hl : N ≤ l) (_h : W.heap[l]? = some o) (_ : o.isCells = false) (_ : o.isWalk = false) : Kept N q W (W.putObj l o') := fun b hb _ =>
  (Below.block (belowK_b (n₀ := N) (w := { W with heap := W.heap.extract 0 N }) (by simp; have := (Array.getElem?_eq_some_iff.1 _h).1; omega) W l o o' (by simp; omega) _h (by assumption) (by assumption)) b hb)

/-- The kids among the first. -/
def upto' (p : Nat → Nat) (k i : Nat) : List Nat := (List.range i).filter fun j => decide (1 ≤ j ∧ p j = k)
theorem upto'_hit (p : Nat → Nat) (k i : Nat) (h1 : 1 ≤ i) (h2 : p i = k) : upto' p k (i + 1) = upto' p k i ++ [i] := by
  unfold upto'
  rw [List.range_succ, List.filter_append]
  simp [h1, h2]
theorem upto'_miss (p : Nat → Nat) (k i : Nat) (h : ¬ (1 ≤ i ∧ p i = k)) : upto' p k (i + 1) = upto' p k i := by
  unfold upto'
  rw [List.range_succ, List.filter_append]
  simp
  intro h1 h2
  exact h ⟨h1, h2⟩
theorem upto'_length (p : Nat → Nat) (k i : Nat) : (upto' p k i).length ≤ i := by
  unfold upto'
  have := List.length_filter_le (fun j => decide (1 ≤ j ∧ p j = k)) (List.range i)
  simpa using this

set_option maxRecDepth 100000 in
set_option maxHeartbeats 2000000 in
theorem kids1_in (F : Fence) (d : Nat) (h20 : F.fn 20) (hro : F.round = none) (hd : 1 ≤ d) (l Bs Bn N q : Nat) (A : Option Addr) (c n B : Nat) (p : Nat → Nat) (k : Nat) (J Jx : List Nat → World → Prop)
    (hY : ∀ pre x W, J pre W → pre.length < n → YieldAt F (d - 1) Try.prog l #[.int .i64 ((x : Nat) : Int)] W fun e W' =>
      (e = .returned (.bool true) ∧ J (pre ++ [x]) W' ∧ Kept N q W W') ∨ (e = .returned (.bool false) ∧ Jx (pre ++ [x]) W'))
    (W : World) (hBs : W.cell? ⟨Bs, 0, none⟩ = some (.slice A n c)) (hBn : W.cell? ⟨Bn, 0, none⟩ = some (.int .i64 (k : Int))) (hbn : Bn < N) (hbq : Bn ≠ q) (hBq : B ≤ q) (hqN : q < N) (ht : TreeAt W B A n p) (h0 : J [] W) :
    CallsIn F d Try.prog 20 #[.func (.yield l) #[] #[], .pointer (some ⟨Bs, 0, none⟩), .pointer (some ⟨Bn, 0, none⟩)] W fun e W' => (∃ v, e = .returned v) ∧
      ((∃ ys, ys = kids p n k ∧ J ys W') ∨ (∃ pre, True ∧ Jx pre W')) := by
  obtain ⟨h1, hn16, hg, bk, off, rfl, hB, ht0, hc⟩ := ht
  have HC := Lib.hid hc
  have HT0 := Lib.hid ht0
  have HBN := Lib.hid hBn
  clear hc ht0 hBn
  refine callsIn_of_wp Try.func20 rfl h20 ?_ hro
  simp only [Try.ntmps20, List.size_toArray, List.length_cons, List.length_nil, Nat.reduceAdd, Nat.reduceSub, Array.replicate_succ, Array.replicate_zero, List.push_toArray, List.append_toArray, List.nil_append, List.cons_append]
  gi_wp2
  gi_loopw [8] (fun i wr => ∃ j : Nat, j ≤ n ∧ i = .int .i64 j ∧ J (upto' p k j) wr ∧ Kept N q W wr) (fun i _ => n - (intOf i).toNat)
  case atStart => exact ⟨0, Nat.zero_le _, rfl, h0, Kept.refl _ _ _⟩
  case round =>
    obtain ⟨j, hj, rfl, hJs, hk⟩ := hrel
    have cn : wr.cell? ⟨Bn, 0, none⟩ = some (.int .i64 (k : Int)) := (hk.cell hbn hbq).trans HBN.out
    by_cases hlt : j < n
    · have hlt' : (j : Int) < (n : Int) := by omega
      by_cases hj0 : j = 0
      · subst hj0
        have c0 : wr.cell? ⟨bk, off, none⟩ = some (.int .i64 (-1)) := (hk.cell (by omega) (by omega)).trans HT0.out
        have e1 : ((-1 : Int) == (k : Int)) = false := by rw [beq_eq_false_iff_ne]; omega
        have hJ2 : J (upto' p k 1) wr := by rw [upto'_miss p k 0 (by omega)]; exact hJs
        gi_wp2
        refine ⟨fun _ h => (by cases h), ?_⟩
        gi_wp2
        go_roundw
        case rel => exact ⟨1, by omega, by simp, hJ2, hk⟩
        case measure => simp [intOf]; omega
      · have cj : wr.cell? ⟨bk, off + j, none⟩ = some (.int .i64 (p j : Int)) := (hk.cell (by omega) (by omega)).trans (HC.out j (by omega) hlt)
        by_cases he : p j = k
        · have e1 : (((p j : Nat) : Int) == (k : Int)) = true := by rw [beq_iff_eq]; omega
          have hlen := upto'_length p k j
          obtain ⟨fn, tmps, assign, body, hy, hR⟩ := hY _ j wr hJs (by omega)
          have hh := Lib.hid (upto'_hit p k j (by omega) he)
          clear he
          generalize p j = x at *
          gi_wp2
          refine hR.mono ?_
          rintro e W3 (⟨rfl, hJ3, hk3⟩ | ⟨rfl, hJx3⟩)
          · gi_wp2
            go_roundw
            case rel => exact ⟨j + 1, by omega, by go_num, by rw [hh.out]; exact hJ3, hk.trans hk3⟩
            case measure => simp [intOf]; omega
          · gi_wp2
            refine bodyPost_ret (results_none rfl _ _ _) rfl ?_
            exact ⟨⟨_, rfl⟩, .inr ⟨_, trivial, hJx3⟩⟩
        · have e1 : (((p j : Nat) : Int) == (k : Int)) = false := by rw [beq_eq_false_iff_ne]; omega
          have hJ2 : J (upto' p k (j + 1)) wr := by rw [upto'_miss p k j (by omega)]; exact hJs
          clear he
          generalize p j = x at *
          gi_wp2
          refine ⟨fun _ h => (by cases h), ?_⟩
          gi_wp2
          go_roundw
          case rel => exact ⟨j + 1, by omega, by go_num, hJ2, hk⟩
          case measure => simp [intOf]; omega
    · obtain rfl : j = n := by omega
      gi_wp2
      go_end0
      exact ⟨⟨_, rfl⟩, .inl ⟨_, rfl, hJs⟩⟩

set_option maxHeartbeats 1000000 in
theorem kids_fn (F : Fence) (d : Nat) (h19 : F.fn 19) (hro : F.round = none) (A : Option Addr) (c n : Nat) (k : Int) (w : World) :
    CallsIn F d Try.prog 19 #[.slice A n c, .int .i64 k] w fun e w' => e = .returned (.func (.func 20) #[] #[.pointer (some ⟨w.heap.size, 0, none⟩), .pointer (some ⟨w.heap.size + 1, 0, none⟩)]) ∧ w' = (w.alloc (.cells #[.slice A n c] 23)).alloc (.cells #[.int .i64 k] 3) := by
  refine callsIn_of_wp Try.func19 rfl h19 ?_ hro
  simp only [Try.ntmps19, List.size_toArray, List.length_cons, List.length_nil, Nat.reduceAdd, Nat.reduceSub, Array.replicate_succ, Array.replicate_zero, List.push_toArray, List.append_toArray, List.nil_append, List.cons_append]
  gi_wp2
  go_ret
  exact ⟨rfl, rfl⟩

set_option maxRecDepth 100000 in
set_option maxHeartbeats 2000000 in
theorem kids_wide (A : Option Addr) (c n : Nat) (p : Nat → Nat) (k : Nat) (w : World) (ht : TreeAt w w.heap.size A n p) (hk : k < n) :
    CallsIn Fence.wide 5 Try.prog 13 #[.slice A n c, .int .i64 k] w fun e w' => ∃ A' c', e = .returned (.slice A' (kids p n k).length c') ∧
      w'.ownsRow w.heap.size 3 1 (.slice A' (kids p n k).length c') (kids p n k).length (natsV (kids p n k)) ∧ Below w.heap.size w w' := by
  obtain ⟨i0, hi0, hz0, hz1, hz2⟩ := info_parts Try.info3
  have hn16 := ht.2.1
  have HT := Lib.hid ht
  clear ht
  refine callsIn_of_wp_marks Try.func13 rfl trivial ?_ rfl
  simp only [Try.ntmps13, List.size_toArray, List.length_cons, List.length_nil, Nat.reduceAdd, Nat.reduceSub, Array.replicate_succ, Array.replicate_zero, List.push_toArray, List.append_toArray, List.nil_append, List.cons_append]
  gi_wp2_with (first
    | (refine ⟨trivial, ?_⟩; gi_at_call 17; refine (callsIn_wide.2 (broker_yes A c n w.heap.size p w HT.out k hk)).mono ?_; rintro e w1 ⟨rfl, rfl⟩)
    | (refine ⟨trivial, ?_⟩; gi_at_call 19; refine (kids_fn Fence.wide _ trivial rfl A c n k _).mono ?_; rintro e w1 ⟨rfl, rfl⟩))
  have bO := Boxed.new w 23 (.slice none 0 0)
  have bS := Boxed.new (w.alloc (.cells #[.slice none 0 0] 23)) 23 (.slice A n c)
  have bN := Boxed.new ((w.alloc (.cells #[.slice none 0 0] 23)).alloc (.cells #[.slice A n c] 23)) 3 (.int .i64 (k : Int))
  rw [World.size_alloc] at bS bN
  rw [World.size_alloc] at bN
  have hB0 : Below w.heap.size w (((w.alloc (.cells #[.slice none 0 0] 23)).alloc (.cells #[.slice A n c] 23)).alloc (.cells #[.int .i64 (k : Int)] 3)) := (((Below.refl _ w).alloc (Nat.le_refl _) _).alloc (by simp) _).alloc (by simp; omega) _
  have hL := HT.out.below hB0
  have hstops : SeqStopsK Fence.wide 4 Try.prog 20 #[.pointer (some ⟨w.heap.size + 1, 0, none⟩), .pointer (some ⟨w.heap.size + 1 + 1, 0, none⟩)] (fun x : Nat => #[Value.int .i64 (x : Int)]) (Kept (w.heap.size + 3) w.heap.size) (fun ys => ys = kids p n k) (fun _ => True) n
      (((w.alloc (.cells #[.slice none 0 0] 23)).alloc (.cells #[.slice A n c] 23)).alloc (.cells #[.int .i64 (k : Int)] 3)) := fun l J Jx W hW _ _ hY h0 =>
    kids1_in Fence.wide 4 trivial rfl (by omega) l (w.heap.size + 1) (w.heap.size + 1 + 1) (w.heap.size + 3) w.heap.size A c n w.heap.size p k J Jx hY W
      ((hW.cell (p := ⟨w.heap.size + 1, 0, none⟩) (by simp)).trans (bS.alloc _).cell) ((hW.cell (p := ⟨w.heap.size + 1 + 1, 0, none⟩) (by simp)).trans bN.cell) (by omega) (by omega) (Nat.le_refl _) (by omega) (hL.below (hW.mono (by simp; omega))) h0
  refine wpIn_rangeFunc_ownG rfl (by omega) (gf := 20) (lb := #[.pointer (some ⟨w.heap.size + 1, 0, none⟩), .pointer (some ⟨w.heap.size + 1 + 1, 0, none⟩)]) rfl trivial (enters_of Try.func20 (by kernel_rfl) rfl)
    hstops (fun h k => h.trans k) (fun W l o o' hl h h1 h2 => Kept.put W l o o' (by simp at hl; omega) h h1 h2) (Below.refl _ _) (fun _ => rfl)
    (fun pre W => (∃ v, Boxed W w.heap.size 23 v ∧ W.ownsRow (w.heap.size + 3) 3 1 v pre.length (natsV pre) ∧ ∃ A' c', v = .slice A' pre.length c') ∧ Boxed W (w.heap.size + 1 + 1) 3 (.int .i64 (k : Int)) ∧ Below w.heap.size w W)
    (fun _ _ _ => False)
    (OwnFrom.and (Own.from (holdsRow_own (w.heap.size + 3) w.heap.size 23 3 1 (fun pre : List Nat => pre.length) (fun pre => natsV pre) (fun pre v => ∃ A' c', v = .slice A' pre.length c')) _) (OwnFrom.and (Own.from (boxed_own _ _ _) _) (ownFrom_below (Nat.le_refl _) (by simp; omega))))
    (fun _ _ _ _ _ hs _ _ => hs)
    ⟨⟨_, (bO.alloc _).alloc _, World.ownsRow_nil _ _ _ _, none, 0, rfl⟩, bN, hB0⟩
    (fun x => { tmps := #[.slice A n c, .int .i64 k, undef, undef, .slice none 0 0, .pointer (some ⟨w.heap.size, 0, none⟩), .int .i64 (x : Int), .slice A n c, .int .i64 k, .bool true, .bool false, .slice A n c, .int .i64 k,
      .func (.func 20) #[] #[.pointer (some ⟨w.heap.size + 1, 0, none⟩), .pointer (some ⟨w.heap.size + 1 + 1, 0, none⟩)], .int .i64 (x : Int), undef, undef, undef, undef, undef], defers := [] }) ?assign ?body ?done ?stop
  case assign =>
    intro l x W K hK
    gi_wp2
    exact hK
  case body =>
    rintro l pre x W ⟨⟨v, hv, hrow, A0, c0, rfl⟩, hN, hB⟩ hlt
    have hc := hv.cell
    have hsz : w.heap.size + 3 ≤ W.heap.size := by have := hN.lt; omega
    gi_wp2_with (gi_at_builtin; refine wpListIn_append_own _ rfl _ _ 23 rfl (w.heap.size + 3) 3 i0 (.int .i64 0) 1 8 Try.underlying23 hi0 hz0 hz1 hz2 rfl (by decide) _ _ _ rfl (hrow.alloc _) ⟨W.heap.size, 0, none⟩ 1 1 [.int .i64 (x : Int)] rfl rfl (cell_one_new _ _ _) (by simp [Value.oneCell']) (by unfold maxLen; omega) (by omega) (by simp; omega) ?_; intro v' w1 hown' hgrow _; obtain ⟨g', cap', rfl⟩ := ownsRow_succ hown'; obtain ⟨hv1, hv2, hr2, hk2, hb2⟩ := hv.appended (n₀ := w.heap.size) (by decide) (own_mono hrow (by omega)) hB.size (Nat.le_refl _) (own_mono hown' (by omega)) hgrow; have hc1 := hv1.cell; have hf1 := hv1.frozen)
    have hkept : Kept (w.heap.size + 3) w.heap.size W (w1.setCell ⟨w.heap.size, 0, none⟩ (.slice (some ⟨g', 0, none⟩) (pre.length + 1) cap')) := fun b hb hq =>
      (Below.heap_setCell w1 ⟨w.heap.size, 0, none⟩ _ b hq).trans ((hgrow.block b (by simp; omega) (fun e => by have := (hrow.lt b e.symm).1; omega)).trans (Below.heap_alloc W _ b (by omega)))
    have hown2 := own_far hown' (p := ⟨w.heap.size, 0, none⟩) (fun e => by have := (hown'.lt w.heap.size e.symm).1; omega) (.slice (some ⟨g', 0, none⟩) (pre.length + 1) cap')
    have hcells : natsV pre ++ [Value.int .i64 (x : Int)] = natsV (pre ++ [x]) := by rw [natsV_append]; rfl
    have hlen : (pre ++ [x]).length = pre.length + 1 := by simp
    rw [hcells] at hown2
    exact ⟨hk2.from _, hkept, ⟨_, hv2, by rw [hlen]; exact hown2, _, _, by rw [hlen]⟩, (hkept _ (by omega) (by omega)).trans hN, hB.trans hb2⟩
  case done =>
    rintro D ys W hD rfl ⟨⟨v, hv, hrow, A0, c0, rfl⟩, _, hB⟩ hK
    have hc := hv.cell
    gi_wp2
    refine ⟨by simp, .inl ⟨_, _, rfl, run_takeDeferred hK, ?_⟩⟩
    exact ⟨_, results_tmp rfl _ _ _, A0, c0, rfl, ownsRow_putObj (own_mono hrow (by omega)) _ hK rfl, hB.trans (belowK_b (w := w) (Nat.le_refl _) W D _ _ (by simp at hD; omega) hK rfl rfl)⟩
  case stop =>
    rintro D c pre W _ _ h _
    exact h.elim
/-- Kids. -/
theorem kids_any (A : Option Addr) (c n : Nat) (p : Nat → Nat) (k : Nat) (w : World) (ht : TreeAt w w.heap.size A n p) (hk : k < n) :
    Calls Try.prog 13 #[.slice A n c, .int .i64 k] w fun e w' => ∃ A' c', e = .returned (.slice A' (kids p n k).length c') ∧
      w'.ownsRow w.heap.size 3 1 (.slice A' (kids p n k).length c') (kids p n k).length (natsV (kids p n k)) ∧ Below w.heap.size w w' := callsIn_wide.1 (kids_wide A c n p k w ht hk)
end Go.Proofs.Ytofgclmibemniaa
