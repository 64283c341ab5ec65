/- The walk of New: parents that make a tree make a net whose links are empty. -/
import Derived.Test.YtbniaojldjhemaaTwice
import Derived.Test.YtbniaojldjhemaaTree
import Derived.Deep.RegionHeld3
namespace Go.Proofs.Ytbniaojldjhemaa
open Go.Conc Go.RowKit Go.Maps

theorem bytes24 : ∃ i, Try.prog.info? 24 = some i ∧ i.bytes = 24 := by
  have h : (Try.prog.info? 24).map (·.bytes) = some 24 := by kernel_rfl
  obtain ⟨i, hi, hb⟩ := Option.map_eq_some_iff.1 h
  exact ⟨i, hi, hb⟩
theorem mk8 (w : World) : (Instr.makeChan 55 (.int .i64 8)).run Try.prog w = .ok (.chan (some w.heap.size)) (w.alloc (.chan 8 #[] false 0 0 false)) := by
  obtain ⟨i, hi, hb⟩ := bytes24
  simpa using run_makeChan (P := Try.prog) (w := w) Try.underlying55 hi .i64 8 (by omega) (by rw [hb]; omega)

/-- The links of the brokers below k. -/
structure LinksOf (p : Nat → Nat) (k : Nat) (L : List Link) : Prop where
  only : ∀ x ∈ L, ∃ j, 1 ≤ j ∧ j < k ∧ ((x.f = j ∧ x.t = p j) ∨ (x.f = p j ∧ x.t = j))
  all : ∀ j, 1 ≤ j → j < k → (∃ x ∈ L, x.f = j ∧ x.t = p j) ∧ (∃ x ∈ L, x.f = p j ∧ x.t = j)
theorem LinksOf.start (p : Nat → Nat) : LinksOf p 1 [] := ⟨fun x hx => by simp at hx, fun j h1 h2 => by omega⟩
theorem LinksOf.next {p : Nat → Nat} {k c d : Nat} {L : List Link} (h : LinksOf p k L) (hk : 1 ≤ k) : LinksOf p (k + 1) (L ++ [⟨k, p k, c⟩] ++ [⟨p k, k, d⟩]) := by
  refine ⟨fun x hx => ?_, fun j h1 h2 => ?_⟩
  · simp only [List.append_assoc, List.mem_append, List.mem_cons, List.not_mem_nil, or_false] at hx
    rcases hx with hx | rfl | rfl
    · obtain ⟨j, h1, h2, h3⟩ := h.only x hx
      exact ⟨j, h1, by omega, h3⟩
    · exact ⟨k, hk, by omega, .inl ⟨rfl, rfl⟩⟩
    · exact ⟨k, hk, by omega, .inr ⟨rfl, rfl⟩⟩
  · by_cases e : j = k
    · subst e
      exact ⟨⟨⟨j, p j, c⟩, by simp, rfl, rfl⟩, ⟨⟨p j, j, d⟩, by simp, rfl, rfl⟩⟩
    · obtain ⟨⟨x, hx, hx2⟩, ⟨y, hy, hy2⟩⟩ := h.all j h1 (by omega)
      exact ⟨⟨x, by simp [hx], hx2⟩, ⟨y, by simp [hy], hy2⟩⟩

/-- One link more: its channel has been made, and the map has it. -/
theorem NetAt.more {w w2 : World} {base qn B : Nat} {L : List Link} {f t : Int} (h : NetAt w base qn B L (fun _ => [])) (hbase : base ≤ w.heap.size) (hf : (Lit.int .i64 f).wf = true) (ht : (Lit.int .i64 t).wf = true) (hno : ∀ x ∈ L, ¬ (x.f = f ∧ x.t = t))
    (hm : MapAt w2 B (L ++ [⟨f, t, w.heap.size⟩])) (hg : (w.alloc (.chan 8 #[] false 0 0 false)).grownBy w2 (some B)) : NetAt w2 base qn B (L ++ [⟨f, t, w.heap.size⟩]) (fun _ => []) ∧ Below base w w2 := by
  have hBlt : B < w.heap.size := by
    obtain ⟨es, h1, _⟩ := h.map
    exact (Array.getElem?_eq_some_iff.1 h1).1
  have hmap := h.map
  have hold : ∀ b, b < w.heap.size → b ≠ B → w2.heap[b]? = w.heap[b]? := fun b hb hne =>
    (hg.block b (by simp; omega) (fun e => hne (by injection e))).trans (Below.heap_alloc w _ b hb)
  have hqB : qn ≠ B := fun e => by
    obtain ⟨es, h1, _⟩ := hmap
    have h2 := h.blk
    unfold Blk at h2
    rw [e, h1] at h2
    injection h2 with h2
    cases h2
  have hcl : ∀ x ∈ L, x.c < w.heap.size ∧ x.c ≠ B := fun x hx => by
    obtain ⟨⟨s, r, hc⟩, _⟩ := h.q x hx
    refine ⟨(Array.getElem?_eq_some_iff.1 hc).1, fun e => ?_⟩
    obtain ⟨es, h1, _⟩ := hmap
    unfold ChanAt at hc
    rw [e, h1] at hc
    injection hc with hc
    cases hc
  refine ⟨⟨(hold qn h.blk.lt hqB).trans h.blk, hm, h.fair.snoc _ hf ht hno, ?_, ⟨h.lo.1, h.lo.2.1, ?_⟩, ?_⟩, ?_⟩
  · intro x hx y hy e
    rcases List.mem_append.1 hx with hx | hx <;> rcases List.mem_append.1 hy with hy | hy
    · exact h.apart x hx y hy e
    · rw [List.mem_singleton] at hy
      subst hy
      have := (hcl x hx).1
      simp only at e
      omega
    · rw [List.mem_singleton] at hx
      subst hx
      have := (hcl y hy).1
      simp only at e
      omega
    · rw [List.mem_singleton] at hx hy
      rw [hx, hy]
  · intro x hx
    rcases List.mem_append.1 hx with hx | hx
    · exact h.lo.2.2 x hx
    · rw [List.mem_singleton] at hx
      subst hx
      exact hbase
  · intro x hx
    refine ⟨?_, fun m hm => by simp at hm⟩
    rcases List.mem_append.1 hx with hx | hx
    · obtain ⟨⟨s, r, hc⟩, _⟩ := h.q x hx
      exact ⟨s, r, (hold x.c (hcl x hx).1 (hcl x hx).2).trans hc⟩
    · rw [List.mem_singleton] at hx
      subst hx
      exact ⟨0, 0, (hg.block w.heap.size (by simp) (fun e => by injection e with e; omega)).trans (heap_alloc_new w _)⟩
  · exact ((Below.refl base w).alloc hbase _).grown hg (by simp; omega) (fun k e => by injection e with e; rw [← e]; exact h.lo.2.1)

theorem new_bad (A : Option Addr) (cap n Bb : Nat) (f : Nat → Int) (w : World) (h : Arr w Bb A n f) (hm : n ≤ 9223372036854775807) (ht : ¬ IsTree n f) :
    Calls Try.prog 12 #[.slice A n cap] w fun e w' => e = .returned (.tuple #[.pointer none, .int .i64 120]) ∧ w = w' := by
  have HT := Lib.hid ht
  clear ht
  go_enter Try.func12, Try.ntmps12
  go_wp2_with fail
  refine (check_bad A cap n Bb f w h hm HT.out).mono ?_
  rintro e w1 ⟨rfl, rfl⟩
  go_wp2
  go_ret2
  exact ⟨rfl, rfl⟩

set_option maxHeartbeats 2000000 in
theorem new_ok (A : Option Addr) (cap n : Nat) (p : Nat → Nat) (w : World) (ht : TreeAt w w.heap.size A n p) :
    Calls Try.prog 12 #[.slice A n cap] w fun e w' => ∃ qn B L, e = .returned (.tuple #[.pointer (some ⟨qn, 0, none⟩), .int .i64 0]) ∧ NetAt w' w.heap.size qn B L (fun _ => []) ∧ LinksOf p n L ∧ Below w.heap.size w w' := by
  have HT := Lib.hid ht
  obtain ⟨h1, h2, hg, bk, off, rfl, hbk, h0, hc⟩ := ht
  have HC := Lib.hid hc
  have HG := Lib.hid hg
  clear h0 hc hg
  have hmm := @run_makeMap Try.prog
  have hmc := mk8
  have hmap0 : MapAt (w.alloc (.map #[] 0)) w.heap.size [] := ⟨#[], heap_alloc_new w _, rfl, rfl⟩
  have hnet0 : NetAt ((w.alloc (.map #[] 0)).alloc (.cells #[.map (some w.heap.size)] 53)) w.heap.size (w.heap.size + 1) w.heap.size [] (fun _ => []) := by
    refine ⟨?_, hmap0.kept (Below.heap_alloc _ _ _ (by simp)), Fair.nil, fun x hx => by simp at hx, ⟨by omega, Nat.le_refl _, fun x hx => by simp at hx⟩, fun x hx => by simp at hx⟩
    have := Blk.made (w.alloc (.map #[] 0)) 53 #[.map (some w.heap.size)]
    rwa [World.size_alloc] at this
  have hb0 : Below w.heap.size w ((w.alloc (.map #[] 0)).alloc (.cells #[.map (some w.heap.size)] 53)) := ((Below.refl _ w).alloc (Nat.le_refl _) _).alloc (by simp) _
  go_enter Try.func12, Try.ntmps12
  go_wp2_with fail
  refine (check_ok _ cap n _ p w HT.out).mono ?_
  rintro e w1 ⟨rfl, rfl⟩
  go_wp2_with fail
  obtain ⟨qn, hqn⟩ : ∃ qn, qn = w.heap.size + 1 := ⟨_, rfl⟩
  rw [← hqn] at hnet0 ⊢
  clear hqn hmap0
  go_loopw [6] (fun k_ wr => ∃ (k : Nat) (L : List Link), k_ = .int .i64 k ∧ 1 ≤ k ∧ k ≤ n ∧ NetAt wr w.heap.size qn w.heap.size L (fun _ => []) ∧ Hid (LinksOf p k L) ∧ Below w.heap.size w wr) (fun k _ => n - (intOf k).toNat)
  case atStart => exact ⟨1, [], rfl, by omega, h1, hnet0, LinksOf.start p, hb0⟩
  case round =>
    obtain ⟨k, L, rfl, hk1, hk, hN, HL, hbw⟩ := hrel
    by_cases hlt : k < n
    · have hlt' : (k : Int) < (n : Int) := by omega
      have hp := HG.out k hk1 hlt
      have wfk : (Lit.int .i64 (k : Int)).wf = true := WalkArith.wf_i64 (by omega)
      have wfp : (Lit.int .i64 (p k : Int)).wf = true := WalkArith.wf_i64 (by omega)
      have hno1 : ∀ x ∈ L, ¬ (x.f = (k : Int) ∧ x.t = (p k : Int)) := fun x hx ⟨e1, e2⟩ => by
        obtain ⟨j, j1, j2, ⟨e3, e4⟩ | ⟨e3, e4⟩⟩ := HL.out.only x hx
        · omega
        · have := HG.out j j1 (by omega)
          omega
      have hnet1 := hN.draws 1
      obtain ⟨w2, hrun1, hm2, hg2⟩ := update_new (w := wr.drew.alloc (.chan 8 #[] false 0 0 false)) (hnet1.map.kept (Below.heap_alloc wr.drew _ _ (by obtain ⟨es, q1, _⟩ := hnet1.map; exact (Array.getElem?_eq_some_iff.1 q1).1))) hnet1.fair wr.heap.size wfk wfp hno1
      obtain ⟨N2, B2⟩ := NetAt.more (w := wr.drew) hnet1 hbw.size wfk wfp hno1 hm2 hg2
      have hno2 : ∀ x ∈ L ++ [⟨(k : Int), (p k : Int), wr.drew.heap.size⟩], ¬ (x.f = (p k : Int) ∧ x.t = (k : Int)) := fun x hx ⟨e1, e2⟩ => by
        rcases List.mem_append.1 hx with hx | hx
        · obtain ⟨j, j1, j2, ⟨e3, e4⟩ | ⟨e3, e4⟩⟩ := HL.out.only x hx
          · have := HG.out j j1 (by omega)
            omega
          · omega
        · rw [List.mem_singleton] at hx
          subst hx
          simp only at e1
          omega
      have hbw1 : Below w.heap.size w wr.drew := hbw.drew
      have hbw2 := hbw1.trans B2
      have hnet2 := N2.draws 1
      obtain ⟨w3, hrun2, hm3, hg3⟩ := update_new (w := w2.drew.alloc (.chan 8 #[] false 0 0 false)) (hnet2.map.kept (Below.heap_alloc w2.drew _ _ (by obtain ⟨es, q1, _⟩ := hnet2.map; exact (Array.getElem?_eq_some_iff.1 q1).1))) hnet2.fair w2.heap.size wfp wfk hno2
      obtain ⟨N3, B3⟩ := NetAt.more (w := w2.drew) hnet2 hbw2.size wfp wfk hno2 hm3 hg3
      have hbw3 := hbw2.drew.trans B3
      have HL3 : Hid (LinksOf p (k + 1) _) := HL.out.next (c := wr.drew.heap.size) (d := w2.drew.heap.size) hk1
      have NN := Lib.hid N3
      have ck := HC.out k hk1 hlt
      have q0 := hN.blk.cell 0
      have q1 := (Blk.alloc (w := wr.drew) hN.blk (.chan 8 #[] false 0 0 false)).cell 0
      have q2 := N2.blk.cell 0
      have q3 := (Blk.alloc (w := w2.drew) N2.blk (.chan 8 #[] false 0 0 false)).cell 0
      have q4 := N3.blk.cell 0
      simp only [show (#[Value.map (some w.heap.size)] : Array Value)[0]? = some (.map (some w.heap.size)) from rfl] at q0 q1 q2 q3 q4
      have r0 := (hbw1.cell (p := ⟨bk, off + k, none⟩) hbk).trans ck
      have r1 := ((hbw1.alloc hbw1.size (.chan 8 #[] false 0 0 false)).cell (p := ⟨bk, off + k, none⟩) hbk).trans ck
      have r2 := (hbw2.cell (p := ⟨bk, off + k, none⟩) hbk).trans ck
      have r3 := (((hbw2.drew).alloc hbw2.size (.chan 8 #[] false 0 0 false)).cell (p := ⟨bk, off + k, none⟩) hbk).trans ck
      have r4 := (hbw3.cell (p := ⟨bk, off + k, none⟩) hbk).trans ck
      unfold keyV at hrun1 hrun2
      have hr1 : (Instr.mapUpdate 51 (.map (some w.heap.size)) (.agg #[.int .i64 (k : Int), .int .i64 (p k : Int)]) (.chan (some wr.heap.size))).run Try.prog (wr.alloc (.chan 8 #[] false 0 0 false)).drew = .ok () w2 := hrun1
      have hr2 : (Instr.mapUpdate 51 (.map (some w.heap.size)) (.agg #[.int .i64 (p k : Int), .int .i64 (k : Int)]) (.chan (some w2.heap.size))).run Try.prog (w2.alloc (.chan 8 #[] false 0 0 false)).drew = .ok () w3 := hrun2
      clear hrun1 hrun2
      clear hno1 hno2 hm2 hg2 hm3 hg3 N2 N3 hnet1 hnet2 B2 B3 ck wfk wfp hp hN HL
      generalize p k = j at *
      go_wp2_with fail
      refine wp_region_held_drew (S := (fun w' => w'.cell? ⟨qn, 0, none⟩ = some (.map (some w.heap.size)) ∧ w'.cell? ⟨bk, off + k, none⟩ = some (.int .i64 (j : Int)))) (by kernel_rfl) (by first | exact ⟨q0, r0⟩ | exact ⟨q1, r1⟩ | exact ⟨q2, r2⟩) (fun hHeld => ?_)
      refine wpAnyH_take (i := 0) (v := ?_) (by simp only [List.getElem?_toArray, List.getElem?_cons_zero]; rfl) (by kernel_rfl) (by kernel_rfl) (by kernel_rfl) (by intros; assumption) (Or.inl ⟨by rfl, ?_⟩) hHeld ?_; rotate_left; (intro w hSw; (try dsimp only at hSw); go_simp; try with_reducible rfl)
      try simp only [Act.put, List.setIfInBounds_toArray, List.set_cons_zero, List.set_cons_succ]
      refine wpAnyH_take (i := 1) (v := ?_) (by simp only [List.getElem?_toArray, List.getElem?_cons_succ, List.getElem?_cons_zero]; rfl) (by kernel_rfl) (by kernel_rfl) (by kernel_rfl) (by intros; assumption) (Or.inl ⟨by rfl, ?_⟩) hHeld ?_; rotate_left; (intro w hSw; (try dsimp only at hSw); go_simp; try with_reducible rfl)
      try simp only [Act.put, List.setIfInBounds_toArray, List.set_cons_zero, List.set_cons_succ]
      refine wpAnyH_take (i := 2) (v := ?_) (by simp only [List.getElem?_toArray, List.getElem?_cons_succ, List.getElem?_cons_zero]; rfl) (by kernel_rfl) (by kernel_rfl) (by kernel_rfl) (by intros; assumption) (Or.inl ⟨by rfl, ?_⟩) hHeld ?_; rotate_left; (intro w hSw; (try dsimp only at hSw); go_simp; try with_reducible rfl)
      try simp only [Act.put, List.setIfInBounds_toArray, List.set_cons_zero, List.set_cons_succ]
      refine wpAnyH_take (i := 3) (v := ?_) (by simp only [List.getElem?_toArray, List.getElem?_cons_succ, List.getElem?_cons_zero]; rfl) (by kernel_rfl) (by kernel_rfl) (by kernel_rfl) (by intros; assumption) (Or.inl ⟨by rfl, ?_⟩) hHeld ?_; rotate_left; (intro w hSw; (try dsimp only at hSw); go_simp; try with_reducible rfl)
      try simp only [Act.put, List.setIfInBounds_toArray, List.set_cons_zero, List.set_cons_succ]
      refine wpAnyH_take (i := 4) (v := ?_) (by simp only [List.getElem?_toArray, List.getElem?_cons_succ, List.getElem?_cons_zero]; rfl) (by kernel_rfl) (by kernel_rfl) (by kernel_rfl) (by intros; assumption) (Or.inl ⟨by rfl, ?_⟩) hHeld ?_; rotate_left; (intro w hSw; (try dsimp only at hSw); go_simp; try with_reducible rfl)
      try simp only [Act.put, List.setIfInBounds_toArray, List.set_cons_zero, List.set_cons_succ]
      refine wpAnyH_take (i := 5) (v := ?_) (by simp only [List.getElem?_toArray, List.getElem?_cons_succ, List.getElem?_cons_zero]; rfl) (by kernel_rfl) (by kernel_rfl) (by kernel_rfl) (by intros; assumption) (Or.inl ⟨by rfl, ?_⟩) hHeld ?_; rotate_left; (intro w hSw; (try dsimp only at hSw); go_simp; try with_reducible rfl)
      try simp only [Act.put, List.setIfInBounds_toArray, List.set_cons_zero, List.set_cons_succ]
      refine wpAnyH_take (i := 6) (v := ?_) (by simp only [List.getElem?_toArray, List.getElem?_cons_succ, List.getElem?_cons_zero]; rfl) (by kernel_rfl) (by kernel_rfl) (by kernel_rfl) (by intros; assumption) (Or.inl ⟨by rfl, ?_⟩) hHeld ?_; rotate_left; (intro w hSw; (try dsimp only at hSw); go_simp; try with_reducible rfl)
      try simp only [Act.put, List.setIfInBounds_toArray, List.set_cons_zero, List.set_cons_succ]
      refine wpAnyH_take (i := 7) (v := ?_) (by simp only [List.getElem?_toArray, List.getElem?_cons_succ, List.getElem?_cons_zero]; rfl) (by kernel_rfl) (by kernel_rfl) (by kernel_rfl) (by intros; assumption) (Or.inl ⟨by rfl, ?_⟩) hHeld ?_; rotate_left; (intro w hSw; (try dsimp only at hSw); go_simp; try with_reducible rfl)
      try simp only [Act.put, List.setIfInBounds_toArray, List.set_cons_zero, List.set_cons_succ]
      refine wpAnyH_take (i := 8) (v := ?_) (by simp only [List.getElem?_toArray, List.getElem?_cons_succ, List.getElem?_cons_zero]; rfl) (by kernel_rfl) (by kernel_rfl) (by kernel_rfl) (by intros; assumption) (Or.inl ⟨by rfl, ?_⟩) hHeld ?_; rotate_left; (intro w hSw; (try dsimp only at hSw); go_simp; try with_reducible rfl)
      try simp only [Act.put, List.setIfInBounds_toArray, List.set_cons_zero, List.set_cons_succ]
      refine wpAnyH_take (i := 9) (v := ?_) (by simp only [List.getElem?_toArray, List.getElem?_cons_succ, List.getElem?_cons_zero]; rfl) (by kernel_rfl) (by kernel_rfl) (by kernel_rfl) (by intros; assumption) (Or.inl ⟨by rfl, ?_⟩) hHeld ?_; rotate_left; (intro w hSw; (try dsimp only at hSw); go_simp; try with_reducible rfl)
      try simp only [Act.put, List.setIfInBounds_toArray, List.set_cons_zero, List.set_cons_succ]
      refine wpAnyH_ready (rs := [10]) (by kernel_rfl) (by simp) (AllReadyH.cons (by simp only [List.getElem?_toArray, List.getElem?_cons_succ, List.getElem?_cons_zero]; rfl) (fun K hK => ?_) AllReadyH.nil)
      clear hHeld
      go_simp
      refine hK.out _ _ (by first | exact ⟨q0, r0⟩ | exact ⟨q1, r1⟩ | exact ⟨q2, r2⟩) (fun hHeld => ?_)
      clear hK K
      try simp only [Act.put, List.setIfInBounds_toArray, List.set_cons_zero, List.set_cons_succ]
      refine wpAnyH_ready (rs := [11]) (by kernel_rfl) (by simp) (AllReadyH.cons (by simp only [List.getElem?_toArray, List.getElem?_cons_succ, List.getElem?_cons_zero]; rfl) (fun K hK => ?_) AllReadyH.nil)
      clear hHeld
      go_simp
      refine hK.out _ _ (by first | exact ⟨q0, r0⟩ | exact ⟨q1, r1⟩ | exact ⟨q2, r2⟩) (fun hHeld => ?_)
      clear hK K
      try simp only [Act.put, List.setIfInBounds_toArray, List.set_cons_zero, List.set_cons_succ]
      refine wpAnyH_done (by kernel_rfl) ?_ _
      go_wp2_with fail
      refine wp_region_held_drew (S := (fun w' => w'.cell? ⟨qn, 0, none⟩ = some (.map (some w.heap.size)) ∧ w'.cell? ⟨bk, off + k, none⟩ = some (.int .i64 (j : Int)))) (by kernel_rfl) (by first | exact ⟨q2, r2⟩ | exact ⟨q3, r3⟩ | exact ⟨q4, r4⟩) (fun hHeld => ?_)
      refine wpAnyH_take (i := 0) (v := ?_) (by simp only [List.getElem?_toArray, List.getElem?_cons_zero]; rfl) (by kernel_rfl) (by kernel_rfl) (by kernel_rfl) (by intros; assumption) (Or.inl ⟨by rfl, ?_⟩) hHeld ?_; rotate_left; (intro w hSw; (try dsimp only at hSw); go_simp; try with_reducible rfl)
      try simp only [Act.put, List.setIfInBounds_toArray, List.set_cons_zero, List.set_cons_succ]
      refine wpAnyH_take (i := 1) (v := ?_) (by simp only [List.getElem?_toArray, List.getElem?_cons_succ, List.getElem?_cons_zero]; rfl) (by kernel_rfl) (by kernel_rfl) (by kernel_rfl) (by intros; assumption) (Or.inl ⟨by rfl, ?_⟩) hHeld ?_; rotate_left; (intro w hSw; (try dsimp only at hSw); go_simp; try with_reducible rfl)
      try simp only [Act.put, List.setIfInBounds_toArray, List.set_cons_zero, List.set_cons_succ]
      refine wpAnyH_take (i := 2) (v := ?_) (by simp only [List.getElem?_toArray, List.getElem?_cons_succ, List.getElem?_cons_zero]; rfl) (by kernel_rfl) (by kernel_rfl) (by kernel_rfl) (by intros; assumption) (Or.inl ⟨by rfl, ?_⟩) hHeld ?_; rotate_left; (intro w hSw; (try dsimp only at hSw); go_simp; try with_reducible rfl)
      try simp only [Act.put, List.setIfInBounds_toArray, List.set_cons_zero, List.set_cons_succ]
      refine wpAnyH_take (i := 3) (v := ?_) (by simp only [List.getElem?_toArray, List.getElem?_cons_succ, List.getElem?_cons_zero]; rfl) (by kernel_rfl) (by kernel_rfl) (by kernel_rfl) (by intros; assumption) (Or.inl ⟨by rfl, ?_⟩) hHeld ?_; rotate_left; (intro w hSw; (try dsimp only at hSw); go_simp; try with_reducible rfl)
      try simp only [Act.put, List.setIfInBounds_toArray, List.set_cons_zero, List.set_cons_succ]
      refine wpAnyH_take (i := 4) (v := ?_) (by simp only [List.getElem?_toArray, List.getElem?_cons_succ, List.getElem?_cons_zero]; rfl) (by kernel_rfl) (by kernel_rfl) (by kernel_rfl) (by intros; assumption) (Or.inl ⟨by rfl, ?_⟩) hHeld ?_; rotate_left; (intro w hSw; (try dsimp only at hSw); go_simp; try with_reducible rfl)
      try simp only [Act.put, List.setIfInBounds_toArray, List.set_cons_zero, List.set_cons_succ]
      refine wpAnyH_take (i := 5) (v := ?_) (by simp only [List.getElem?_toArray, List.getElem?_cons_succ, List.getElem?_cons_zero]; rfl) (by kernel_rfl) (by kernel_rfl) (by kernel_rfl) (by intros; assumption) (Or.inl ⟨by rfl, ?_⟩) hHeld ?_; rotate_left; (intro w hSw; (try dsimp only at hSw); go_simp; try with_reducible rfl)
      try simp only [Act.put, List.setIfInBounds_toArray, List.set_cons_zero, List.set_cons_succ]
      refine wpAnyH_take (i := 6) (v := ?_) (by simp only [List.getElem?_toArray, List.getElem?_cons_succ, List.getElem?_cons_zero]; rfl) (by kernel_rfl) (by kernel_rfl) (by kernel_rfl) (by intros; assumption) (Or.inl ⟨by rfl, ?_⟩) hHeld ?_; rotate_left; (intro w hSw; (try dsimp only at hSw); go_simp; try with_reducible rfl)
      try simp only [Act.put, List.setIfInBounds_toArray, List.set_cons_zero, List.set_cons_succ]
      refine wpAnyH_take (i := 7) (v := ?_) (by simp only [List.getElem?_toArray, List.getElem?_cons_succ, List.getElem?_cons_zero]; rfl) (by kernel_rfl) (by kernel_rfl) (by kernel_rfl) (by intros; assumption) (Or.inl ⟨by rfl, ?_⟩) hHeld ?_; rotate_left; (intro w hSw; (try dsimp only at hSw); go_simp; try with_reducible rfl)
      try simp only [Act.put, List.setIfInBounds_toArray, List.set_cons_zero, List.set_cons_succ]
      refine wpAnyH_take (i := 8) (v := ?_) (by simp only [List.getElem?_toArray, List.getElem?_cons_succ, List.getElem?_cons_zero]; rfl) (by kernel_rfl) (by kernel_rfl) (by kernel_rfl) (by intros; assumption) (Or.inl ⟨by rfl, ?_⟩) hHeld ?_; rotate_left; (intro w hSw; (try dsimp only at hSw); go_simp; try with_reducible rfl)
      try simp only [Act.put, List.setIfInBounds_toArray, List.set_cons_zero, List.set_cons_succ]
      refine wpAnyH_take (i := 9) (v := ?_) (by simp only [List.getElem?_toArray, List.getElem?_cons_succ, List.getElem?_cons_zero]; rfl) (by kernel_rfl) (by kernel_rfl) (by kernel_rfl) (by intros; assumption) (Or.inl ⟨by rfl, ?_⟩) hHeld ?_; rotate_left; (intro w hSw; (try dsimp only at hSw); go_simp; try with_reducible rfl)
      try simp only [Act.put, List.setIfInBounds_toArray, List.set_cons_zero, List.set_cons_succ]
      refine wpAnyH_ready (rs := [10]) (by kernel_rfl) (by simp) (AllReadyH.cons (by simp only [List.getElem?_toArray, List.getElem?_cons_succ, List.getElem?_cons_zero]; rfl) (fun K hK => ?_) AllReadyH.nil)
      clear hHeld
      go_simp
      refine hK.out _ _ (by first | exact ⟨q2, r2⟩ | exact ⟨q3, r3⟩ | exact ⟨q4, r4⟩) (fun hHeld => ?_)
      clear hK K
      try simp only [Act.put, List.setIfInBounds_toArray, List.set_cons_zero, List.set_cons_succ]
      refine wpAnyH_ready (rs := [11]) (by kernel_rfl) (by simp) (AllReadyH.cons (by simp only [List.getElem?_toArray, List.getElem?_cons_succ, List.getElem?_cons_zero]; rfl) (fun K hK => ?_) AllReadyH.nil)
      clear hHeld
      go_simp
      refine hK.out _ _ (by first | exact ⟨q2, r2⟩ | exact ⟨q3, r3⟩ | exact ⟨q4, r4⟩) (fun hHeld => ?_)
      clear hK K
      try simp only [Act.put, List.setIfInBounds_toArray, List.set_cons_zero, List.set_cons_succ]
      refine wpAnyH_done (by kernel_rfl) ?_ _
      go_wp2_with fail
      go_roundw
      case rel => exact ⟨k + 1, _, by go_num, by omega, by omega, NN.out, HL3, hbw3⟩
      case measure => simp [intOf]; omega
    · have hge : (n : Int) ≤ (k : Int) := by omega
      have hkn : k = n := by omega
      have HKN := Lib.hid hkn
      clear hkn
      go_wp2_with fail
      go_ret2
      exact ⟨qn, w.heap.size, L, rfl, hN, by rw [← HKN.out]; exact HL.out, hbw⟩
end Go.Proofs.Ytbniaojldjhemaa
