/- Words for memory, over any program: an address that holds cells; a byte slice; a slice of byte slices. Plain lemmas; no conditions. -/
import Derived.WalkKit
import Derived.WalkLawsBesides
import Derived.WalkSpells
import Derived.Lib.Hide
import Derived.Maps.AppendAt
import Derived.Deep.Draws
import Derived.Laws.AppendOwnNone
namespace Go.Proofs.Ytbniaojldjhemaa
open Go.RowKit

/-- From the address A on, below block B, lie the cells xs. -/
def Lies (w : World) (B : Nat) (A : Option Addr) (xs : List Value) : Prop :=
  xs = [] ∨ ∃ b off, A = some ⟨b, off, none⟩ ∧ b < B ∧ ∀ j u, xs[j]? = some u → w.cell? ⟨b, off + j, none⟩ = some u

section
variable {w w' : World} {B B' : Nat} {A : Option Addr} {xs : List Value}
theorem Lies.nil (w : World) (B : Nat) (A : Option Addr) : Lies w B A [] := .inl rfl
theorem Lies.open_ (h : Lies w B A xs) (hx : 0 < xs.length) : ∃ b off, A = some ⟨b, off, none⟩ ∧ b < B ∧ ∀ j u, xs[j]? = some u → w.cell? ⟨b, off + j, none⟩ = some u := by
  rcases h with rfl | h
  · simp at hx
  · exact h
theorem Lies.keep (h : Lies w B A xs) (hk : ∀ p : Addr, p.block < B → w'.cell? p = w.cell? p) : Lies w' B A xs := by
  rcases h with h | ⟨b, off, hA, hb, hc⟩
  · exact .inl h
  · exact .inr ⟨b, off, hA, hb, fun j u hu => (hk _ hb).trans (hc j u hu)⟩
theorem Lies.more (h : Lies w B A xs) (hB : B ≤ B') : Lies w B' A xs := by
  rcases h with h | ⟨b, off, hA, hb, hc⟩
  · exact .inl h
  · exact .inr ⟨b, off, hA, by omega, hc⟩
theorem Lies.below (h : Lies w B A xs) (hb : Below B w w') : Lies w' B A xs := h.keep fun _ hp => hb.cell hp
theorem Lies.drew (h : Lies w B A xs) : Lies w.drew B A xs := h
theorem Lies.drewN (h : Lies w B A xs) (k : Nat) : Lies (w.drewN k) B A xs := h
theorem Lies.alloc (h : Lies w B A xs) (hB : B ≤ w.heap.size) (o : Obj) : Lies (w.alloc o) B A xs := h.below ((Below.refl B w).alloc hB o)
theorem Lies.grown (h : Lies w B A xs) {row : Option Nat} (hg : w.grownBy w' row) (hB : B ≤ w.heap.size) (hr : ∀ g, row = some g → B ≤ g) : Lies w' B A xs :=
  h.below ((Below.refl B w).grown hg hB hr)
/-- A cut: from k on, and no further than n behind it. -/
theorem Lies.cut (h : Lies w B A xs) {k n : Nat} (hk : k + n ≤ xs.length) (A' : Option Addr) (hA : 0 < n → A' = A.map (·.add k)) : Lies w B A' ((xs.drop k).take n) := by
  by_cases hn : n = 0
  · subst hn
    left
    simp
  · obtain ⟨b, off, rfl, hb, hc⟩ := h.open_ (by omega)
    right
    refine ⟨b, off + k, ?_, hb, fun j u hu => ?_⟩
    · rw [hA (by omega)]
      unfold Addr.add
      by_cases h0 : k = 0 <;> simp [h0]
    · rw [List.getElem?_take] at hu
      split at hu
      · rw [List.getElem?_drop] at hu
        rw [Nat.add_assoc]
        exact hc _ u hu
      · cases hu
theorem Lies.of_own {base size n c : Nat} {e : TypeId} (h : w.ownsRow base e size (.slice A n c) n xs) : Lies w w.heap.size A xs := by
  by_cases hx : xs = []
  · exact .inl hx
  · rcases h.2 with ⟨hv, hn⟩ | ⟨g, cap, cur, hv, hg, hh, hnc, hcm, hcs, htake⟩
    · have := h.1
      subst hn
      simp at this
      exact absurd this hx
    · right
      have hA : A = some ⟨g, 0, none⟩ := by injection hv
      refine ⟨g, 0, hA, (Array.getElem?_eq_some_iff.1 hh).1, fun j u hu => ?_⟩
      have := h.cells (g := g) (by rw [hA]; rfl) j u hu
      rwa [Addr.add_lit] at this
end

/-! ### Bytes -/

/-- Bytes as cells. -/
def bytesV (l : List UInt8) : List Value := l.map fun c => .int .u8 (c.toNat : Int)
theorem bytesV_length (l : List UInt8) : (bytesV l).length = l.length := by simp [bytesV]
theorem bytesV_append (a b : List UInt8) : bytesV (a ++ b) = bytesV a ++ bytesV b := by simp [bytesV]
theorem bytesV_cut (l : List UInt8) (k n : Nat) : ((bytesV l).drop k).take n = bytesV ((l.drop k).take n) := by simp [bytesV, List.map_take, List.map_drop]
theorem bytesV_get (l : List UInt8) {k : Nat} (h : k < l.length) : (bytesV l)[k]? = some (.int .u8 (l[k].toNat : Int)) := by simp [bytesV, h]
theorem bytesV_one (l : List UInt8) : ∀ u ∈ bytesV l, u.oneCell' = true := by
  intro u hu
  simp only [bytesV, List.mem_map] at hu
  obtain ⟨c, _, rfl⟩ := hu
  rfl
theorem bytesV_inj {a b : List UInt8} (h : bytesV a = bytesV b) : a = b := by
  have := congrArg (List.map fun v : Value => match v with | .int _ n => UInt8.ofNat n.toNat | _ => 0) h
  simpa [bytesV, Function.comp_def] using this

/-- The slice from A on reads as bytes. -/
abbrev Bytes (w : World) (B : Nat) (A : Option Addr) (l : List UInt8) : Prop := Lies w B A (bytesV l)

theorem Lies.byte {w : World} {B : Nat} {A : Option Addr} {l : List UInt8} (h : Bytes w B A l) {k : Nat} (hk : k < l.length) :
    ∃ b off, A = some ⟨b, off, none⟩ ∧ b < B ∧ w.cell? ⟨b, off + k, none⟩ = some (.int .u8 (l[k].toNat : Int)) := by
  obtain ⟨b, off, hA, hb, hc⟩ := h.open_ (by rw [bytesV_length]; omega)
  exact ⟨b, off, hA, hb, hc k _ (bytesV_get l hk)⟩

section
variable {P : Program}
/-- 'string(b)' of bytes that lie there, nil let in. -/
theorem run_text (w : World) (src dst e : TypeId) {B : Nat} {A : Option Addr} {l : List UInt8} (h : Bytes w B A l) (hs : P.underlying src = some (.slice e)) (he : P.underlying e = some (.int .u8)) (hd : P.underlying dst = some .string) (n c : Nat) (hn : n = l.length) :
    (convert src dst (.slice A n c)).run P w = .ok (.string ⟨l.toArray⟩) w := by
  subst hn
  by_cases h0 : l = []
  · subst h0
    cases A with
    | none =>
      exact run_convert_bytes_nil (P := P) w src e hs he 0 c dst hd
    | some a =>
      exact run_convert_bytes_back (P := P) w src dst e a c [] hs he hd (fun j hj => by simp at hj)
  · obtain ⟨b, off, rfl, hb, hc⟩ := h.open_ (by rw [bytesV_length]; exact List.length_pos_iff.2 h0)
    refine run_convert_bytes_back (P := P) w src dst e _ c l hs he hd (fun j hj => ?_)
    rw [Addr.add_lit]
    exact hc j _ (bytesV_get l hj)
end

/-- A row is a slice of its length. -/
theorem own_form {w : World} {base e n : Nat} {v : Value} {xs : List Value} (h : w.ownsRow base e 1 v n xs) : ∃ A c, v = .slice A n c := by
  rcases h.2 with ⟨rfl, rfl⟩ | ⟨g, cap, cur, rfl, _⟩
  · exact ⟨_, _, rfl⟩
  · exact ⟨_, _, rfl⟩

/-! ### Append onto a row of the call's own, from whatever lies -/
section
variable {P : Program} (w : World)
theorem run_append_nothing (base : Nat) (t ty e : TypeId) (i : TypeInfo) (ht : P.underlying t = some (.slice e)) (hi : P.info? e = some i) (v : Value) (n : Nat) (xs : List Value) (hown : w.ownsRow base e 1 v n xs) (c : Nat) :
    (Builtin.append_ #[t, t] ty #[v, .slice none 0 c]).run P w = .ok v w := by
  rcases hown.2 with ⟨rfl, rfl⟩ | ⟨g, cap, cur, rfl, _, _, hnc, _⟩
  · simp [Builtin.append_, run_underlying ht, sizeOf, typeInfo, hi, Builtin.lenOf, Builtin.firstCells]
  · simp [Builtin.append_, run_underlying ht, sizeOf, typeInfo, hi, Builtin.lenOf, Builtin.firstCells, hnc, storeCells]

theorem run_append_from (base : Nat) (t ty e : TypeId) (i : TypeInfo) (z : Value) (bytes : Nat) (ht : P.underlying t = some (.slice e)) (hi : P.info? e = some i) (hz : i.zero = some z)
    (hsize : i.size = 1) (hby : i.bytes = bytes) (hzs : z.cells.size = 1)
    (v : Value) (n : Nat) (xs : List Value) (hown : w.ownsRow base e 1 v n xs)
    (B : Nat) (A : Option Addr) (c : Nat) (news : List Value) (hr : Lies w B A news) (h1 : ∀ u ∈ news, u.oneCell' = true)
    (h63 : n + news.length ≤ maxLen) (hbytes : (n + news.length) * bytes ≤ 140737488355328) (hbase : base ≤ w.heap.size) :
    ∃ A' c' w', (Builtin.append_ #[t, t] ty #[v, .slice A news.length c]).run P w = .ok (.slice A' (n + news.length) c') w' ∧ w'.ownsRow base e 1 (.slice A' (n + news.length) c') (n + news.length) (xs ++ news) ∧ w.grownBy w' v.ownBlock ∧
      ((Value.slice A' (n + news.length) c').ownBlock = v.ownBlock ∨ (Value.slice A' (n + news.length) c').ownBlock = some w.heap.size) := by
  suffices hh : ∃ v' w', (Builtin.append_ #[t, t] ty #[v, .slice A news.length c]).run P w = .ok v' w' ∧ w'.ownsRow base e 1 v' (n + news.length) (xs ++ news) ∧ w.grownBy w' v.ownBlock ∧
      (v'.ownBlock = v.ownBlock ∨ v'.ownBlock = some w.heap.size) by
    obtain ⟨v', w', hrun, h2, h3, h4⟩ := hh
    obtain ⟨A', c', rfl⟩ := own_form h2
    exact ⟨A', c', w', hrun, h2, h3, h4⟩
  by_cases hn : news = []
  · subst hn
    cases A with
    | none => exact ⟨v, w, run_append_nothing w base t ty e i ht hi v n xs hown c, by simpa using hown, World.grownBy.refl w _, .inl rfl⟩
    | some a =>
      obtain ⟨v', w', hrun, h2, h3, _, h5⟩ := run_append_own_at (P := P) w base t ty e i z 1 bytes ht hi hz hsize hby hzs (by omega) v n xs hown a 0 c [] rfl (fun j u hu => by simp at hu) h1 h63 hbytes hbase
      exact ⟨v', w', hrun, h2, h3, h5⟩
  · obtain ⟨b, off, rfl, hb, hc⟩ := hr.open_ (List.length_pos_iff.2 hn)
    obtain ⟨v', w', hrun, h2, h3, _, h5⟩ := run_append_own_at (P := P) w base t ty e i z 1 bytes ht hi hz hsize hby hzs (by omega) v n xs hown ⟨b, off, none⟩ news.length c news (by omega)
      (fun j u hu => by rw [Addr.add_lit]; exact hc j u hu) h1 h63 hbytes hbase
    exact ⟨v', w', hrun, h2, h3, h5⟩

theorem wpList_append_from {ops : Array Oper} {rest : List Oper} {o : Oper} {a : Act} {Q : Exit → Act → World → Prop} (hgd : o.guard = none) (s x : Operand) (t : TypeId)
    (ho : o.op = .call { callee := .builtin .append, args := #[s, x], argTypes := #[t, t] })
    (base : Nat) (e : TypeId) (i : TypeInfo) (z : Value) (bytes : Nat) (ht : P.underlying t = some (.slice e)) (hi : P.info? e = some i) (hz : i.zero = some z)
    (hsize : i.size = 1) (hby : i.bytes = bytes) (hzs : z.cells.size = 1)
    (v : Value) (n : Nat) (xs : List Value) (hs : a.eval s = v) (hown : w.ownsRow base e 1 v n xs)
    (B : Nat) (A : Option Addr) (m c : Nat) (news : List Value) (hx : a.eval x = .slice A m c) (hm : news.length = m) (hr : Lies w B A news) (h1 : ∀ u ∈ news, u.oneCell' = true)
    (h63 : n + m ≤ maxLen) (hbytes : (n + m) * bytes ≤ 140737488355328) (hbase : base ≤ w.heap.size)
    (h : ∀ A' c' w', w'.ownsRow base e 1 (.slice A' (n + m) c') (n + m) (xs ++ news) → w.grownBy w' v.ownBlock → ((Value.slice A' (n + m) c').ownBlock = v.ownBlock ∨ (Value.slice A' (n + m) c').ownBlock = some w.heap.size) → wpList P ops Q rest (a.put o.dst (.slice A' (n + m) c')) w') : wpList P ops Q (o :: rest) a w := by
  subst hm
  refine wpList_plain hgd fun K hK => ?_
  obtain ⟨A', c', w', hrun, h2, h3, h4⟩ := run_append_from (P := P) w base t o.type e i z bytes ht hi hz hsize hby hzs v n xs hown B A c news hr h1 h63 hbytes hbase
  unfold Oper.wp execOp
  simp only [ho, resolve, invoke, builtin, Sem.run_bind, Sem.run_pure, Result.andThen_ok, List.map_toArray, List.map_cons, List.map_nil, hs, hx, hrun]
  exact hK _ _ (h A' c' w' h2 h3 h4)

/-- The same as one step of a region that draws its order. -/
theorem step_append_from {ops : Array Oper} {o : Oper} {a : Act} {K : Act → World → Prop} {Q : Exit → Act → World → Prop} {E : Prop} (hgd : o.guard = none) (s x : Operand) (t : TypeId)
    (ho : o.op = .call { callee := .builtin .append, args := #[s, x], argTypes := #[t, t] })
    (base : Nat) (e : TypeId) (i : TypeInfo) (z : Value) (bytes : Nat) (ht : P.underlying t = some (.slice e)) (hi : P.info? e = some i) (hz : i.zero = some z)
    (hsize : i.size = 1) (hby : i.bytes = bytes) (hzs : z.cells.size = 1)
    (v : Value) (n : Nat) (xs : List Value) (hs : a.eval s = v) (hown : w.ownsRow base e 1 v n xs)
    (B : Nat) (A : Option Addr) (m c : Nat) (news : List Value) (hx : a.eval x = .slice A m c) (hm : news.length = m) (hr : Lies w B A news) (h1 : ∀ u ∈ news, u.oneCell' = true)
    (h63 : n + m ≤ maxLen) (hbytes : (n + m) * bytes ≤ 140737488355328) (hbase : base ≤ w.heap.size)
    (h : ∀ A' c' w', w'.ownsRow base e 1 (.slice A' (n + m) c') (n + m) (xs ++ news) → w.grownBy w' v.ownBlock → ((Value.slice A' (n + m) c').ownBlock = v.ownBlock ∨ (Value.slice A' (n + m) c').ownBlock = some w.heap.size) → K (a.put o.dst (.slice A' (n + m) c')) w') :
    if Region.wanted o (yielded ops a.tmps) = true then Oper.wp P o a w K Q else E := by
  have hw : Region.wanted o (yielded ops a.tmps) = true := by simp [Region.wanted, hgd]
  rw [if_pos hw]
  subst hm
  obtain ⟨A', c', w', hrun, h2, h3, h4⟩ := run_append_from (P := P) w base t o.type e i z bytes ht hi hz hsize hby hzs v n xs hown B A c news hr h1 h63 hbytes hbase
  unfold Oper.wp execOp
  simp only [ho, resolve, invoke, builtin, Sem.run_bind, Sem.run_pure, Result.andThen_ok, List.map_toArray, List.map_cons, List.map_nil, hs, hx, hrun]
  exact h A' c' w' h2 h3 h4
end

/-- The one cell of a new block. -/
theorem Lies.one (w : World) (t : TypeId) (u : Value) : Lies (w.alloc (.cells #[u] t)) (w.heap.size + 1) (some ⟨w.heap.size, 0, none⟩) [u] := by
  refine .inr ⟨_, _, rfl, by omega, fun j v hj => ?_⟩
  match j, hj with
  | 0, hj =>
    have h0 := cell_of_row (w.alloc (.cells #[u] t)) w.heap.size 0 #[u] t (0, 0) (heap_alloc_new w _)
    have hu : u = v := by simpa using hj
    subst hu
    simp

/-- Behind an append onto a row of the call's own: what lies below its base is as it was. -/
theorem below_append {w w1 : World} {base e n B : Nat} {v : Value} {xs : List Value} (hown : w.ownsRow base e 1 v n xs) (hg : w.grownBy w1 v.ownBlock) (hB : B ≤ base) (hs : base ≤ w.heap.size) : Below B w w1 :=
  (Below.refl B w).grown hg (by omega) (fun k hk => by have := (hown.lt k hk).1; omega)

/-- A block that is known whole. -/
def Blk (w : World) (g : Nat) (t : TypeId) (cs : Array Value) : Prop := w.heap[g]? = some (.cells cs t (0, 0))
section
variable {w w' : World} {g : Nat} {t : TypeId} {cs : Array Value}
theorem Blk.lt (h : Blk w g t cs) : g < w.heap.size := (Array.getElem?_eq_some_iff.1 h).1
theorem Blk.cell (h : Blk w g t cs) (i : Nat) : w.cell? ⟨g, i, none⟩ = cs[i]? := cell_of_row w g i cs t (0, 0) h
theorem Blk.free (h : Blk w g t cs) (i : Nat) : w.frozen? ⟨g, i, none⟩ = false := by
  unfold Blk at h
  simp [World.frozen?, h]
theorem Blk.made (w : World) (t : TypeId) (cs : Array Value) : Blk (w.alloc (.cells cs t)) w.heap.size t cs := heap_alloc_new w _
theorem Blk.below {B : Nat} (h : Blk w g t cs) (hb : Below B w w') (hg : g < B) : Blk w' g t cs := (hb.block g hg).trans h
theorem Blk.grown {row : Option Nat} (h : Blk w g t cs) (hb : w.grownBy w' row) (hg : some g ≠ row) : Blk w' g t cs := (hb.block g h.lt hg).trans h
theorem Blk.alloc (h : Blk w g t cs) (o : Obj) : Blk (w.alloc o) g t cs := (Below.heap_alloc w o g h.lt).trans h
theorem Blk.put (h : Blk w g t cs) (i : Nat) (u : Value) : Blk (w.setCell ⟨g, i, none⟩ u) g t (cs.setIfInBounds i u) := by
  unfold Blk at h ⊢
  simp [World.setCell, Array.getElem?_modify, h]
theorem Blk.far (h : Blk w g t cs) {p : Addr} (hp : g ≠ p.block) (u : Value) : Blk (w.setCell p u) g t cs := (Below.heap_setCell w p u g hp).trans h
/-- A row's block is no block of other elements. -/
theorem Blk.ne_own {base e n : Nat} {v : Value} {xs : List Value} (h : Blk w g t cs) (hown : w.ownsRow base e 1 v n xs) (hne : e ≠ t) : some g ≠ v.ownBlock := by
  rcases hown.2 with ⟨rfl, _⟩ | ⟨g', cap, cur, rfl, _, hh, _⟩
  · simp [Value.ownBlock]
  · intro he
    have hg : g = g' := by simpa [Value.ownBlock] using he
    subst hg
    unfold Blk at h
    rw [h] at hh
    injection hh with hh
    injection hh with _ ht
    exact hne ht.symm
/-- A row stays while a cell of another block is written. -/
theorem own_far {base e n : Nat} {v : Value} {xs : List Value} (h : w.ownsRow base e 1 v n xs) {p : Addr} (hp : some p.block ≠ v.ownBlock) (u : Value) : (w.setCell p u).ownsRow base e 1 v n xs := by
  refine ⟨h.1, ?_⟩
  rcases h.2 with hn | ⟨g, cap, cur, hv, hb, hg, rest⟩
  · exact .inl hn
  · refine .inr ⟨g, cap, cur, hv, hb, ?_, rest⟩
    rw [Below.heap_setCell _ _ _ _ (fun e => hp (by rw [hv, ← e]; rfl))]
    exact hg
end

end Go.Proofs.Ytbniaojldjhemaa
