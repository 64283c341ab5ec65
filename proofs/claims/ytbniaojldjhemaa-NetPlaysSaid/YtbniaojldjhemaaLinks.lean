/- The map from ways to links: what it holds, its lookups and its updates. Plain lemmas over the program's types. -/
import Derived.Test.YtbniaojldjhemaaChan
import Derived.Test.YtbniaojldjhemaaRowsof
import Derived.DeepKeys4
import Derived.Maps.Keyed
namespace Go.Proofs.Ytbniaojldjhemaa
open Go.RowKit Go.Maps

theorem laid0 : laidOutB Try.prog = true := by kernel_rfl
theorem row57 : (57 : TypeId) < Try.prog.types.size := of_decide_eq_true (by kernel_rfl)
theorem wide57 : (match Try.prog.underlying 57 with | some (.array _ _) | some (.struct _) => true | _ => false) = true := by rw [Try.underlying57]
theorem law57 : Keyed Try.prog 57 := Keyed.of_law (deep_law_laid laid0 (m := 2) (by omega) row57 (by kernel_rfl) wide57)
theorem kt57 : Try.prog.keyType 57 = true := by kernel_rfl
theorem cells57 : Try.prog.cellsOf 57 = 2 := by kernel_rfl
theorem cells3 : Try.prog.cellsOf 3 = 1 := by kernel_rfl
theorem formed57 {c0 c1 : Value} : (Value.agg #[c0, c1]).formed Try.prog 57 = true := by simp [Value.formed, Try.underlying57, cells57]
theorem zero55 (w : World) : (zeroValue 55).run Try.prog w = .ok (.chan none) w := by kernel_rfl

/-- A way as a key. -/
def keyV (f t : Int) : Value := .agg #[.int .i64 f, .int .i64 t]
theorem way_key (f t : Int) (hf : (Lit.int .i64 f).wf = true) (ht : (Lit.int .i64 t).wf = true) : ∃ l, keyOf Try.prog 57 (keyV f t) = some l := by
  unfold keyOf keyV
  rw [Try.underlying57]
  simp only [kt57, formed57, Bool.and_self, if_true]
  obtain ⟨m, hm⟩ : ∃ m, Try.prog.types.size + 1 = m + 2 := ⟨Try.prog.types.size - 1, by have h : 57 < Try.prog.types.size := row57; omega⟩
  rw [hm]
  have h3 : ∀ a : Int, (Lit.int .i64 a).wf = true → Try.prog.keyLits (m + 1) 3 [.int .i64 a] = some [.int .i64 a] := fun a ha => by
    unfold Program.keyLits
    rw [Try.underlying3]
    simp [ha]
  refine ⟨.string (keyBytes [.int .i64 f, .int .i64 t]), ?_⟩
  unfold Program.keyLits
  rw [Try.underlying57]
  simp only [Value.cells, cells57]
  have hc : Try.prog.cellsOf 3 = 1 := cells3
  simp [hc, h3 f hf, h3 t ht]
theorem keyV_inj {f t f' t' : Int} (h : keyV f t = keyV f' t') : f = f' ∧ t = t' := by
  unfold keyV at h
  injection h with h
  have h1 := congrArg (fun a : Array Value => a[0]?) h
  have h2 := congrArg (fun a : Array Value => a[1]?) h
  simp at h1 h2
  exact ⟨h1, h2⟩

/-- A link: from, to, its channel's block. -/
structure Link where
  f : Int
  t : Int
  c : Nat
def Link.pair (x : Link) : Value × Value := (keyV x.f x.t, .chan (some x.c))
/-- Numbers that fit, and no way twice. -/
structure Fair (L : List Link) : Prop where
  wf : ∀ x ∈ L, (Lit.int .i64 x.f).wf = true ∧ (Lit.int .i64 x.t).wf = true
  nodup : L.Pairwise fun x y => ¬ (x.f = y.f ∧ x.t = y.t)
/-- The map's block: these links. -/
def MapAt (w : World) (B : Nat) (L : List Link) : Prop := ∃ es : Array MapEntry, w.heap[B]? = some (.map es L.length) ∧ es.toList.map (fun e => (e.key, e.val)) = L.map Link.pair ∧ es.toList.map (fun e => e.born) = List.range L.length

theorem MapAt.keys {L : List Link} {es : Array MapEntry} (hL : Fair L) (he : es.toList.map (fun e => (e.key, e.val)) = L.map Link.pair) : ∀ e ∈ es.toList, ∃ l, keyOf Try.prog 57 e.key = some l := by
  intro e hm
  have : (e.key, e.val) ∈ L.map Link.pair := by rw [← he]; exact List.mem_map.2 ⟨e, hm, rfl⟩
  obtain ⟨x, hx, hxe⟩ := List.mem_map.1 this
  obtain ⟨h1, h2⟩ := hL.wf x hx
  have hk : e.key = keyV x.f x.t := by
    have := congrArg Prod.fst hxe
    exact this.symm
  rw [hk]
  exact way_key _ _ h1 h2

theorem lookup_in {w : World} {B : Nat} {L : List Link} (hm : MapAt w B L) (hL : Fair L) {x : Link} (hx : x ∈ L) :
    (Instr.lookup 51 (.map (some B)) (keyV x.f x.t) true).run Try.prog w = .ok (.tuple #[.chan (some x.c), .bool true]) w := by
  obtain ⟨es, hB, he, _⟩ := hm
  obtain ⟨h1, h2⟩ := hL.wf x hx
  obtain ⟨l, hl⟩ := way_key x.f x.t h1 h2
  have hks := MapAt.keys hL he
  have hin : (x.pair) ∈ es.toList.map (fun e => (e.key, e.val)) := by rw [he]; exact List.mem_map.2 ⟨x, hx, rfl⟩
  obtain ⟨e0, he0, hp0⟩ := List.mem_map.1 hin
  have hfind : ∃ j, (Instr.findKey 57 (keyV x.f x.t) es.toList).run Try.prog w = .ok (some (j, .chan (some x.c))) w := by
    rcases law57.find w hl es.toList hks with ⟨_, hno⟩ | ⟨j, e, hr, hj, hk⟩
    · exact absurd (congrArg Prod.fst hp0) (hno e0 he0)
    · refine ⟨j, ?_⟩
      rw [hr]
      have hmem : (e.key, e.val) ∈ L.map Link.pair := by rw [← he]; exact List.mem_map.2 ⟨e, List.mem_of_getElem? hj, rfl⟩
      obtain ⟨y, hy, hye⟩ := List.mem_map.1 hmem
      have hky : keyV y.f y.t = keyV x.f x.t := by
        have := congrArg Prod.fst hye
        exact this.trans hk
      obtain ⟨q1, q2⟩ := keyV_inj hky
      have hyx : y = x := by
        have hpw := hL.nodup
        rw [List.pairwise_iff_getElem] at hpw
        obtain ⟨i, hi, hyi⟩ := List.getElem_of_mem hy
        obtain ⟨i', hi', hxi⟩ := List.getElem_of_mem hx
        rcases Nat.lt_trichotomy i i' with h | h | h
        · exact absurd (by rw [hyi, hxi]; exact ⟨q1, q2⟩) (hpw i i' hi hi' h)
        · subst h
          rw [← hyi, ← hxi]
        · exact absurd (by rw [hyi, hxi]; exact ⟨q1.symm, q2.symm⟩) (hpw i' i hi' hi h)
      have hv : e.val = .chan (some x.c) := by
        have := congrArg Prod.snd hye
        rw [hyx] at this
        exact this.symm
      rw [hv]
  obtain ⟨j, hj⟩ := hfind
  unfold Instr.lookup
  simp [run_underlying Try.underlying51, Go.MapKept.run_getObj_map hB, law57.check w es.isEmpty hl, hj]
theorem lookup_out {w : World} {B : Nat} {L : List Link} (hm : MapAt w B L) (hL : Fair L) {f t : Int} (hf : (Lit.int .i64 f).wf = true) (ht : (Lit.int .i64 t).wf = true) (hno : ∀ x ∈ L, ¬ (x.f = f ∧ x.t = t)) :
    (Instr.lookup 51 (.map (some B)) (keyV f t) true).run Try.prog w = .ok (.tuple #[.chan none, .bool false]) w := by
  obtain ⟨es, hB, he, _⟩ := hm
  obtain ⟨l, hl⟩ := way_key f t hf ht
  have hks := MapAt.keys hL he
  have hfind : (Instr.findKey 57 (keyV f t) es.toList).run Try.prog w = .ok none w := by
    rcases law57.find w hl es.toList hks with ⟨hr, _⟩ | ⟨j, e, hr, hj, hk⟩
    · exact hr
    · exfalso
      have hmem : (e.key, e.val) ∈ L.map Link.pair := by rw [← he]; exact List.mem_map.2 ⟨e, List.mem_of_getElem? hj, rfl⟩
      obtain ⟨y, hy, hye⟩ := List.mem_map.1 hmem
      have hky : keyV y.f y.t = keyV f t := by
        have := congrArg Prod.fst hye
        exact this.trans hk
      exact hno y hy (keyV_inj hky)
  unfold Instr.lookup
  simp [run_underlying Try.underlying51, Go.MapKept.run_getObj_map hB, law57.check w es.isEmpty hl, hfind]

theorem update_new {w : World} {B : Nat} {L : List Link} (hm : MapAt w B L) (hL : Fair L) {f t : Int} (c : Nat) (hf : (Lit.int .i64 f).wf = true) (ht : (Lit.int .i64 t).wf = true) (hno : ∀ x ∈ L, ¬ (x.f = f ∧ x.t = t)) :
    ∃ w', (Instr.mapUpdate 51 (.map (some B)) (keyV f t) (.chan (some c))).run Try.prog w = .ok () w' ∧ MapAt w' B (L ++ [⟨f, t, c⟩]) ∧ w.grownBy w' (some B) := by
  obtain ⟨es, hB, he, hborn⟩ := hm
  obtain ⟨l, hl⟩ := way_key f t hf ht
  have hks := MapAt.keys hL he
  have hfind : (Instr.findKey 57 (keyV f t) es.toList).run Try.prog w = .ok none w := by
    rcases law57.find w hl es.toList hks with ⟨hr, _⟩ | ⟨j, e, hr, hj, hk⟩
    · exact hr
    · exfalso
      have hmem : (e.key, e.val) ∈ L.map Link.pair := by rw [← he]; exact List.mem_map.2 ⟨e, List.mem_of_getElem? hj, rfl⟩
      obtain ⟨y, hy, hye⟩ := List.mem_map.1 hmem
      have hky : keyV y.f y.t = keyV f t := by
        have := congrArg Prod.fst hye
        exact this.trans hk
      exact hno y hy (keyV_inj hky)
  have hlt : B < w.heap.size := (Array.getElem?_eq_some_iff.1 hB).1
  refine ⟨{ w with heap := w.heap.setIfInBounds B (.map (es.push { key := keyV f t, val := .chan (some c), born := L.length }) (L.length + 1)) }, ?_, ⟨es.push { key := keyV f t, val := .chan (some c), born := L.length }, ?_, ?_, ?_⟩, ?_⟩
  · unfold Instr.mapUpdate
    simp [run_underlying Try.underlying51, Go.MapKept.run_getObj_map hB, law57.check w false hl, hfind, Go.MapKept.run_setObj_map _ hB]
  · simp [hlt]
  · simp [he, Link.pair]
  · simp [hborn, List.range_succ]
  · refine ⟨rfl, rfl, rfl, by simp, fun k hk hne => ?_⟩
    have hk' : B ≠ k := fun e => hne (by rw [e])
    simp [Array.getElem?_setIfInBounds_ne hk']
theorem Fair.snoc {L : List Link} (h : Fair L) {f t : Int} (c : Nat) (hf : (Lit.int .i64 f).wf = true) (ht : (Lit.int .i64 t).wf = true) (hno : ∀ x ∈ L, ¬ (x.f = f ∧ x.t = t)) : Fair (L ++ [⟨f, t, c⟩]) := by
  refine ⟨fun x hx => ?_, ?_⟩
  · rcases List.mem_append.1 hx with hx | hx
    · exact h.wf x hx
    · rw [List.mem_singleton] at hx
      subst hx
      exact ⟨hf, ht⟩
  · rw [List.pairwise_append]
    refine ⟨h.nodup, by simp, fun x hx y hy => ?_⟩
    rw [List.mem_singleton] at hy
    subst hy
    exact hno x hx
theorem Fair.nil : Fair [] := ⟨fun x hx => by simp at hx, by simp⟩
theorem MapAt.kept {w w' : World} {B : Nat} {L : List Link} (h : MapAt w B L) (hb : w'.heap[B]? = w.heap[B]?) : MapAt w' B L := by
  obtain ⟨es, h1, h2⟩ := h
  exact ⟨es, hb.trans h1, h2⟩
end Go.Proofs.Ytbniaojldjhemaa
