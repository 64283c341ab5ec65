/- The range over a net's map: an iterator beside the net. Plain lemmas, and the law of the range's step. -/
import Derived.Test.YtbniaojldjhemaaTexts
import Derived.Maps.RangeWalk
namespace Go.Proofs.Ytbniaojldjhemaa
open Go.Conc Go.RowKit Go.Maps

/-- Block r is an iterator over the map at B, whose entries are es; the stamps in seen have come. -/
structure IterAt (w : World) (r B : Nat) (L : List Link) (es : Array MapEntry) (seen : Array Nat) : Prop where
  map : w.heap[B]? = some (.map es L.length)
  pairs : es.toList.map (fun e => (e.key, e.val)) = L.map Link.pair
  born : es.toList.map (fun e => e.born) = List.range L.length
  it : ∃ c0, w.heap[r]? = some (.mapIter (some B) L.length seen c0) ∧ L.length ≤ c0

section
variable {w w' : World} {r B : Nat} {L : List Link} {es : Array MapEntry} {seen : Array Nat}
theorem IterAt.len (h : IterAt w r B L es seen) : es.toList.length = L.length := by
  have := congrArg List.length h.pairs
  simpa using this
theorem IterAt.entry (h : IterAt w r B L es seen) {e : MapEntry} (he : e ∈ es.toList) : ∃ (i : Nat) (hi : i < L.length), e.born = i ∧ e.key = keyV L[i].f L[i].t ∧ e.val = .chan (some L[i].c) := by
  obtain ⟨i, hi, rfl⟩ := List.getElem_of_mem he
  have hl := h.len
  have hi' : i < L.length := by omega
  have h1 : (es.toList.map (fun e => (e.key, e.val)))[i]? = (L.map Link.pair)[i]? := by rw [h.pairs]
  have h2 : (es.toList.map (fun e => e.born))[i]? = (List.range L.length)[i]? := by rw [h.born]
  rw [List.getElem?_map, List.getElem?_map, List.getElem?_eq_getElem hi, List.getElem?_eq_getElem hi'] at h1
  rw [List.getElem?_map, List.getElem?_eq_getElem hi, List.getElem?_range hi'] at h2
  simp only [Option.map_some, Option.some.injEq] at h1 h2
  exact ⟨i, hi', h2, congrArg Prod.fst h1, congrArg Prod.snd h1⟩
theorem IterAt.nodup (h : IterAt w r B L es seen) : (es.toList.map (fun e => e.born)).Nodup := by
  rw [h.born]
  exact List.nodup_range
theorem IterAt.old (h : IterAt w r B L es seen) : ∀ x ∈ es.toList, x.born < L.length := fun x hx => by
  obtain ⟨i, hi, e, _⟩ := h.entry hx
  omega
theorem IterAt.left (h : IterAt w r B L es seen) : w.rangeLeft B r = (leftOf es seen).size := by
  obtain ⟨c0, h1, _⟩ := h.it
  unfold World.rangeLeft
  rw [h.map, h1]
theorem IterAt.kept (h : IterAt w r B L es seen) (hB : w'.heap[B]? = w.heap[B]?) (hr : w'.heap[r]? = w.heap[r]?) : IterAt w' r B L es seen := by
  obtain ⟨c0, h1, h2⟩ := h.it
  exact ⟨hB.trans h.map, h.pairs, h.born, c0, hr.trans h1, h2⟩
theorem IterAt.turn (h : IterAt w r B L es seen) (t : Turns w w') : IterAt w' r B L es seen := by
  obtain ⟨c0, h1, h2⟩ := h.it
  exact ⟨t.block _ _ h.map rfl, h.pairs, h.born, c0, t.block _ _ h1 rfl, h2⟩
theorem IterAt.all (h : IterAt w r B L es seen) (h0 : (leftOf es seen).size = 0) : ∀ i, i < L.length → seen.contains i = true := fun i hi => by
  have hl := h.len
  have hi' : i < es.toList.length := by omega
  have h2 : (es.toList.map (fun e => e.born))[i]? = (List.range L.length)[i]? := by rw [h.born]
  rw [List.getElem?_map, List.getElem?_eq_getElem hi', List.getElem?_range hi] at h2
  simp only [Option.map_some, Option.some.injEq] at h2
  cases hc : seen.contains i with
  | true => rfl
  | false =>
    exfalso
    have hm : es.toList[i] ∈ (leftOf es seen) := by
      unfold leftOf
      rw [Array.mem_filter]
      refine ⟨by simp, ?_⟩
      rw [h2, hc]
      rfl
    have : leftOf es seen = #[] := Array.eq_empty_of_size_eq_zero h0
    rw [this] at hm
    simp at hm
/-- Only an iterator's block has turned: what was read reads as before. -/
theorem grown_cell {r : Nat} {m : Option Nat} {s : Nat} {sn : Array Nat} {c : Nat} (hr : w.heap[r]? = some (.mapIter m s sn c)) (g : w.grownBy w' (some r)) {a : Addr} {v : Value} (hc : w.cell? a = some v) : w'.cell? a = some v := by
  have hlt := World.block_lt_of_cell? w a hc
  have hne : a.block ≠ r := fun e => by
    unfold World.cell? at hc
    rw [e, hr] at hc
    simp at hc
  have := g.block a.block hlt (fun e => hne (by injection e))
  rw [World.cell?_of_block (w := w) (w' := w') (a := a) this]
  exact hc
theorem Turns.iter {r : Nat} {w0 : World} (t : Turns w0 w) (g : w.grownBy w' (some r)) (hr : w0.heap.size ≤ r) : Turns w0 w' :=
  ⟨Nat.le_trans t.size g.size, fun b o hb ho => by
    have h1 := t.block b o hb ho
    have hlt : b < w0.heap.size := (Array.getElem?_eq_some_iff.1 hb).1
    exact (g.block b (Array.getElem?_eq_some_iff.1 h1).1 (fun e => by injection e with e; omega)).trans h1⟩
theorem NetAt.iter {base qn B' : Nat} {L' : List Link} {R : Nat → List Msg} (h : NetAt w base qn B' L' R) {r : Nat} {m : Option Nat} {s : Nat} {sn : Array Nat} {c : Nat} (hr : w.heap[r]? = some (.mapIter m s sn c)) (g : w.grownBy w' (some r)) : NetAt w' base qn B' L' R := by
  have keep : ∀ (b : Nat) (o : Obj), w.heap[b]? = some o → (∀ m s sn c, o ≠ .mapIter m s sn c) → w'.heap[b]? = some o := fun b o hb hne => by
    refine (g.block b (Array.getElem?_eq_some_iff.1 hb).1 (fun e => ?_)).trans hb
    injection e with e
    rw [e, hr] at hb
    injection hb with hb
    exact hne _ _ _ _ hb.symm
  refine ⟨keep _ _ h.blk (fun _ _ _ _ e => by cases e), ?_, h.fair, h.apart, h.lo, fun x hx => ?_⟩
  · obtain ⟨es, h1, h2⟩ := h.map
    exact ⟨es, keep _ _ h1 (fun _ _ _ _ e => by cases e), h2⟩
  · obtain ⟨⟨s, r, hc⟩, hm⟩ := h.q x hx
    refine ⟨⟨s, r, keep _ _ hc (fun _ _ _ _ e => by cases e)⟩, fun m hm' => ?_⟩
    rcases hm m hm' with hn | ⟨b, off, hA, hb, hcs⟩
    · exact .inl hn
    · exact .inr ⟨b, off, hA, Nat.lt_of_lt_of_le hb g.size, fun j u hu => grown_cell hr g (hcs j u hu)⟩
/-- The step: nothing is left, or a link that has not come, whichever the tape says. -/
theorem wpList_next_links {P : Program} {ops : Array Oper} {rest : List Oper} {o : Oper} {a : Act} {Q : Exit → Act → World → Prop} (hg : o.guard = none) (it : Operand) (hop : o.op = Op.next it false)
    (hit : a.eval it = .pointer (some ⟨r, 0, none⟩)) (h : IterAt w r B L es seen) (hBr : B ≠ r)
    (hDone : (∀ i, i < L.length → seen.contains i = true) → wpList P ops Q rest (a.put o.dst (.tuple #[.bool false])) w)
    (hMore : ∀ (i : Nat) (hi : i < L.length) (w' : World), seen.contains i = false → IterAt w' r B L es (seen.push i) → w.grownBy w' (some r) → w'.heap.size = w.heap.size → (leftOf es (seen.push i)).size < (leftOf es seen).size →
      (Instr.entry (.pointer (some ⟨r, 0, none⟩))).run P w' = .ok (.tuple #[keyV L[i].f L[i].t, .chan (some L[i].c)]) w' → wpList P ops Q rest (a.put o.dst (.tuple #[.bool true, keyV L[i].f L[i].t, .chan (some L[i].c)])) w') :
    wpList P ops Q (o :: rest) a w := by
  refine wpList_plain hg fun K' hK' => ?_
  unfold Oper.wp
  obtain ⟨c0, hr, hsc⟩ := h.it
  rcases run_next_at (P := P) w o.type r B L.length c0 seen es L.length hr h.map h.old hsc with ⟨h0, hrun⟩ | ⟨e, he, w1, hal, hrun⟩
  · simp [execOp, hop, hit, hrun, Result.andThen]
    exact hK' _ _ (hDone (h.all h0))
  · obtain ⟨hmem, hns⟩ := mem_left he
    obtain ⟨i, hi, rfl, hk, hv⟩ := h.entry hmem
    have hw1 : w1.heap = w.heap := by rcases hal with rfl | rfl <;> rfl
    have hrs : r < w.heap.size := (Array.getElem?_eq_some_iff.1 hr).1
    have hBs : (Go.ChangeMaps.setBlock w1 r (.mapIter (some B) L.length (seen.push e.born) L.length)).heap[B]? = some (.map es L.length) := by
      unfold Go.ChangeMaps.setBlock
      simp only
      rw [Array.getElem?_setIfInBounds_ne (Ne.symm hBr), hw1]
      exact h.map
    have hrr : (Go.ChangeMaps.setBlock w1 r (.mapIter (some B) L.length (seen.push e.born) L.length)).heap[r]? = some (.mapIter (some B) L.length (seen.push e.born) L.length) := by
      unfold Go.ChangeMaps.setBlock
      simp [hw1, hrs]
    have hsz : (Go.ChangeMaps.setBlock w1 r (.mapIter (some B) L.length (seen.push e.born) L.length)).heap.size = w.heap.size := by
      unfold Go.ChangeMaps.setBlock
      simp [hw1]
    have hgr : w.grownBy (Go.ChangeMaps.setBlock w1 r (.mapIter (some B) L.length (seen.push e.born) L.length)) (some r) := by
      refine ⟨?_, ?_, ?_, by rw [hsz]; exact Nat.le_refl _, fun k hk hne => ?_⟩
      · rcases hal with rfl | rfl <;> rfl
      · rcases hal with rfl | rfl <;> rfl
      · rcases hal with rfl | rfl <;> rfl
      · have hk' : r ≠ k := fun e => hne (by rw [e])
        unfold Go.ChangeMaps.setBlock
        simp only
        rw [Array.getElem?_setIfInBounds_ne hk', hw1]
    have hen := run_entry_at (P := P) _ r B L.length seen es L.length e hrr hBs hmem h.nodup
    simp only [hk, hv] at hen hrun
    simp [execOp, hop, hit, hrun, Result.andThen]
    exact hK' _ _ (hMore e.born hi _ hns ⟨hBs, h.pairs, h.born, _, hrr, Nat.le_refl _⟩ hgr hsz (left_shrinks es seen e he) hen)
end
end Go.Proofs.Ytbniaojldjhemaa
