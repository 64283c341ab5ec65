/- The net and the reference side by side: each operation answers the same, and they stay alike. -/
import Derived.Test.YtbniaojldjhemaaRefOps
namespace Go.Proofs.Ytbniaojldjhemaa
open Go.Conc Go.RowKit Go.Maps

/-- What does not turn. -/
structure Fix where
  base : Nat
  qn : Nat
  B : Nat
  L : List Link
  qr : Nat
  n : Nat
  p : Nat → Nat
/-- The net and the reference hold the same. -/
structure Both (X : Fix) (w : World) : Prop where
  links : LinksOf X.p X.n X.L
  good : Good X.p X.n
  le : X.base ≤ w.heap.size
  ex : ∃ Q M, NetAt w X.base X.qn X.B X.L Q ∧ RefAt w X.base X.qr X.n X.p M ∧ (∀ x ∈ X.L, ∀ i j : Nat, x.f = i → x.t = j → (Q x.c).map Msg.l = M i j) ∧ ∀ x ∈ X.L, (Q x.c).length ≤ 8 ∧ ∀ m ∈ Q x.c, m.l.length ≤ 200

/-- A link of the net is one of the reference. -/
theorem link_nat {p : Nat → Nat} {n : Nat} {L : List Link} (h : LinksOf p n L) (hg : Good p n) {x : Link} (hx : x ∈ L) : ∃ i j : Nat, x.f = i ∧ x.t = j ∧ i < n ∧ j < n ∧ ((par p i == (j : Int)) || (par p j == (i : Int))) = true := by
  obtain ⟨k, k1, k2, h3⟩ := h.only x hx
  have hk := hg k k1 k2
  rcases h3 with ⟨h3, h4⟩ | ⟨h3, h4⟩
  · refine ⟨k, p k, h3, h4, k2, by omega, ?_⟩
    have : par p k = (p k : Int) := by unfold par; rw [if_neg (by omega)]
    simp [this]
  · refine ⟨p k, k, h3, h4, by omega, k2, ?_⟩
    have : par p k = (p k : Int) := by unfold par; rw [if_neg (by omega)]
    simp [this]
theorem link_of {p : Nat → Nat} {n : Nat} {L : List Link} (h : LinksOf p n L) {i j : Nat} (hi : i < n) (hj : j < n) (hl : ((par p i == (j : Int)) || (par p j == (i : Int))) = true) : ∃ x ∈ L, x.f = i ∧ x.t = j := by
  rw [Bool.or_eq_true, beq_iff_eq, beq_iff_eq] at hl
  have hp : ∀ a b : Nat, par p a = (b : Int) → 1 ≤ a ∧ p a = b := fun a b e => by
    unfold par at e
    split at e <;> omega
  rcases hl with e | e
  · obtain ⟨e1, e2⟩ := hp _ _ e
    obtain ⟨⟨x, hx, h1, h2⟩, _⟩ := h.all i e1 hi
    exact ⟨x, hx, h1, by rw [h2, e2]⟩
  · obtain ⟨e1, e2⟩ := hp _ _ e
    obtain ⟨_, ⟨x, hx, h1, h2⟩⟩ := h.all j e1 hj
    exact ⟨x, hx, by rw [h1, e2], h2⟩
/-- A way is a link of both, or of none. -/
theorem link_or {X : Fix} (h : LinksOf X.p X.n X.L) (hg : Good X.p X.n) (f t : Int) : (∃ x ∈ X.L, ∃ i j : Nat, x.f = i ∧ x.t = j ∧ f = i ∧ t = j ∧ i < X.n ∧ j < X.n ∧ ((par X.p i == (j : Int)) || (par X.p j == (i : Int))) = true) ∨
    ((∀ x ∈ X.L, ¬ (x.f = f ∧ x.t = t)) ∧ ∀ w M, RefAt w X.base X.qr X.n X.p M → NoLink w X.qr f t) := by
  by_cases hx : ∃ x ∈ X.L, x.f = f ∧ x.t = t
  · obtain ⟨x, hx, rfl, rfl⟩ := hx
    obtain ⟨i, j, h1, h2, h3⟩ := link_nat h hg hx
    exact .inl ⟨x, hx, i, j, h1, h2, h1, h2, h3⟩
  · refine .inr ⟨fun x hx' e => hx ⟨x, hx', e⟩, fun w M hr => ?_⟩
    by_cases hfar : f < 0 ∨ t < 0 ∨ (X.n : Int) ≤ f ∨ (X.n : Int) ≤ t
    · exact rlink_far w X.base X.qr X.n X.p M hr f t hfar
    · obtain ⟨i, rfl⟩ : ∃ i : Nat, f = i := ⟨f.toNat, by omega⟩
      obtain ⟨j, rfl⟩ : ∃ j : Nat, t = j := ⟨t.toNat, by omega⟩
      have := rlink_near w X.base X.qr X.n X.p M hr i j (by omega) (by omega)
      cases hb : ((par X.p i == (j : Int)) || (par X.p j == (i : Int))) with
      | true =>
        obtain ⟨x, hx', h1, h2⟩ := link_of h (by omega) (by omega) hb
        exact absurd ⟨x, hx', h1, h2⟩ hx
      | false =>
        rw [hb] at this
        exact this

section
variable {X : Fix} {w w' : World}
theorem Both.below (h : Both X w) (hb : Below w.heap.size w w') : Both X w' := by
  obtain ⟨Q, M, h1, h2, h3⟩ := h.ex
  exact ⟨h.links, h.good, Nat.le_trans h.le hb.size, Q, M, h1.below hb, h2.below hb, h3⟩
theorem Both.draws (h : Both X w) (k : Nat) : Both X (w.drewN k) := by
  obtain ⟨Q, M, h1, h2, h3⟩ := h.ex
  exact ⟨h.links, h.good, h.le, Q, M, h1.draws k, h2.draws k, h3⟩
/-- Two ends of one link. -/
theorem same_ends {L : List Link} (hF : Fair L) {x y : Link} (hx : x ∈ L) (hy : y ∈ L) (h1 : x.f = y.f) (h2 : x.t = y.t) : x = y := by
  have hpw := hF.nodup
  rw [List.pairwise_iff_getElem] at hpw
  obtain ⟨i, hi, hyi⟩ := List.getElem_of_mem hx
  obtain ⟨i', hi', hxi⟩ := List.getElem_of_mem hy
  rcases Nat.lt_trichotomy i i' with h | h | h
  · exact absurd (by rw [hyi, hxi]; exact ⟨h1, h2⟩) (hpw i i' hi hi' h)
  · subst h
    rw [← hyi, ← hxi]
  · exact absurd (by rw [hyi, hxi]; exact ⟨h1.symm, h2.symm⟩) (hpw i' i hi' hi h)
/-- One link has turned in both. -/
theorem both_step (hl : LinksOf X.p X.n X.L) (hg : Good X.p X.n) (hle : X.base ≤ w.heap.size) {Q Q' : Nat → List Msg} {M M' : Nat → Nat → List (List UInt8)} (h1 : NetAt w X.base X.qn X.B X.L Q') (h2 : RefAt w X.base X.qr X.n X.p M')
    (hs : ∀ x ∈ X.L, ∀ i j : Nat, x.f = i → x.t = j → (Q x.c).map Msg.l = M i j) (hc : ∀ x ∈ X.L, (Q x.c).length ≤ 8 ∧ ∀ m ∈ Q x.c, m.l.length ≤ 200)
    {x : Link} (hx : x ∈ X.L) {i j : Nat} (hi : x.f = i) (hj : x.t = j) {q : List Msg} {ls : List (List UInt8)} (hQ : ∀ y ∈ X.L, Q' y.c = if y.c = x.c then q else Q y.c) (hM : ∀ a b, M' a b = upd M i j ls a b) (hq : q.map Msg.l = ls) (hq8 : q.length ≤ 8) (hqb : ∀ m ∈ q, m.l.length ≤ 200) : Both X w := by
  refine ⟨hl, hg, hle, Q', M', h1, h2, fun y hy a b ha hb => ?_, fun y hy => ?_⟩
  · rw [hQ y hy, hM]
    unfold upd
    by_cases e : y.c = x.c
    · have := h1.apart y hy x hx e
      subst this
      rw [if_pos rfl, if_pos ⟨by omega, by omega⟩, hq]
    · rw [if_neg e, if_neg, hs y hy a b ha hb]
      rintro ⟨rfl, rfl⟩
      exact e (by rw [same_ends h1.fair hy hx (by omega) (by omega)])
  · rw [hQ y hy]
    by_cases e : y.c = x.c
    · rw [if_pos e]
      exact ⟨hq8, hqb⟩
    · rw [if_neg e]
      exact hc y hy
theorem both_grown {k : Nat} {t : TypeId} {cs : Array Value} {qr : Nat} (h : Blk w k t cs) {w' : World} (g : w.grownBy w' (some qr)) (hne : k ≠ qr) : Blk w' k t cs := h.grown g (fun e => hne (by injection e))

/-- The call of the net, and behind it that of the reference: the same answer; they stay alike. -/
def Pair (X : Fix) (w : World) (f g : FuncId) (us vs : Array Value) : Prop :=
  ∃ r : Int, Calls Try.prog f us w fun e w1 => e = .returned (.int .i64 r) ∧ Turns w w1 ∧ Below X.base w w1 ∧
    Calls Try.prog g vs w1 fun e w2 => e = .returned (.int .i64 r) ∧ w1.grownBy w2 (some X.qr) ∧ Both X w2
end

section
variable {X : Fix} {w : World} (h : Both X w) (f t : Int) (wf : (Lit.int .i64 f).wf = true) (wt : (Lit.int .i64 t).wf = true)
include h wf wt
theorem pair_long : ∃ r : Int, (Calls Try.prog 14 #[.pointer (some ⟨X.qn, 0, none⟩), .int .i64 f, .int .i64 t] w fun e w' => e = .returned (.int .i64 r) ∧ w = w') ∧
    (Calls Try.prog 22 #[.pointer (some ⟨X.qr, 0, none⟩), .int .i64 f, .int .i64 t] w fun e w' => e = .returned (.int .i64 r) ∧ w = w') := by
  obtain ⟨Q, M, hN, hR, hs, hc⟩ := h.ex
  rcases link_or h.links h.good f t with ⟨x, hx, i, j, e1, e2, rfl, rfl, hi, hj, hl⟩ | ⟨hno, hnl⟩
  · refine ⟨(Q x.c).length, ?_, ?_⟩
    · have := long_in w _ _ _ _ Q hN x hx
      rwa [e1, e2] at this
    · have := rlong_in w _ _ _ _ M hR i j hi hj hl
      rwa [← hs x hx i j e1 e2, List.length_map] at this
  · exact ⟨0, long_out w _ _ _ _ Q hN f t wf wt hno, rlong_no w _ f t (hnl w M hR)⟩
theorem pair_send (A : Option Addr) (c nb : Nat) (b : List UInt8) (hnb : nb = b.length) (hy : Bytes w X.base A b) (hm : nb ≤ 200) : Pair X w 13 29 #[.pointer (some ⟨X.qn, 0, none⟩), .int .i64 f, .int .i64 t, .slice A nb c] #[.pointer (some ⟨X.qr, 0, none⟩), .int .i64 f, .int .i64 t, .slice A nb c] := by
  subst hnb
  obtain ⟨Q, M, hN, hR, hs, hc⟩ := h.ex
  rcases link_or h.links h.good f t with ⟨x, hx, i, j, e1, e2, rfl, rfl, hi, hj, hl⟩ | ⟨hno, hnl⟩
  · have hQM := hs x hx i j e1 e2
    have hlen : (Q x.c).length = (M i j).length := by rw [← hQM, List.length_map]
    by_cases h8 : (Q x.c).length < 8
    · refine ⟨0, ?_⟩
      have := send_room w _ _ _ _ Q hN x hx A c X.base b hy h.le h.le (by omega) h8
      rw [e1, e2] at this
      refine this.mono ?_
      rintro e w1 ⟨rfl, m, hml, _, hN1, hT, hB⟩
      have hR1 := hR.turn hT
      have hs1 := hT.size
      refine ⟨rfl, hT, hB, ?_⟩
      refine (rsend_room w1 _ _ _ _ M hR1 i j hi hj hl A c _ b rfl ((hy.below hB).more (by have := h.le; omega)) (by omega) (by omega)).mono ?_
      rintro e w2 ⟨rfl, hR2, g2⟩
      refine ⟨rfl, g2, both_step h.links h.good (by have := h.le; have := g2.size; omega) (hN1.off hR1 g2) hR2 hs hc hx e1 e2 (fun y hy => rfl) (fun a b => rfl) ?_ ?_ ?_⟩
      · rw [List.map_append, hQM]
        simp [hml]
      · rw [List.length_append]
        simp
        omega
      · intro m' hm'
        rcases List.mem_append.1 hm' with hm' | hm'
        · exact (hc x hx).2 m' hm'
        · rw [List.mem_singleton] at hm'
          rw [hm', hml]
          exact hm
    · refine ⟨141, ?_⟩
      have := send_full w _ _ _ _ Q hN x hx A c X.base b hy h.le (by omega) (by omega)
      rw [e1, e2] at this
      refine this.mono ?_
      rintro e w1 ⟨rfl, hN1, hB⟩
      have hR1 := hR.below hB
      refine ⟨rfl, .of_below hB, hB.mono h.le, ?_⟩
      refine (rsend_full w1 _ _ _ _ M hR1 i j hi hj hl _ (by omega)).mono ?_
      rintro e w2 ⟨rfl, rfl⟩
      exact ⟨rfl, World.grownBy.refl _ _, h.links, h.good, Nat.le_trans h.le hB.size, Q, M, hN1, hR1, hs, hc⟩
  · refine ⟨140, ?_⟩
    refine (send_out w _ _ _ _ Q hN f t _ wf wt hno).mono ?_
    rintro e w1 ⟨rfl, rfl⟩
    refine ⟨rfl, Turns.refl _, Below.refl _ _, ?_⟩
    refine (rsend_no w _ f t (hnl w M hR) _).mono ?_
    rintro e w1 ⟨rfl, rfl⟩
    exact ⟨rfl, World.grownBy.refl _ _, h⟩
theorem pair_drop : Pair X w 19 31 #[.pointer (some ⟨X.qn, 0, none⟩), .int .i64 f, .int .i64 t] #[.pointer (some ⟨X.qr, 0, none⟩), .int .i64 f, .int .i64 t] := by
  obtain ⟨Q, M, hN, hR, hs, hc⟩ := h.ex
  rcases link_or h.links h.good f t with ⟨x, hx, i, j, e1, e2, rfl, rfl, hi, hj, hl⟩ | ⟨hno, hnl⟩
  · have hQM := hs x hx i j e1 e2
    have hc8 := hc x hx
    cases hq : Q x.c with
    | nil =>
      rw [hq] at hQM
      refine ⟨141, ?_⟩
      have := drop_empty w _ _ _ _ Q hN x hx hq
      rw [e1, e2] at this
      refine this.mono ?_
      rintro e w1 ⟨rfl, rfl⟩
      refine ⟨rfl, Turns.refl _, Below.refl _ _, ?_⟩
      refine (rdrop_empty w _ _ _ _ M hR i j hi hj hl hQM.symm).mono ?_
      rintro e w1 ⟨rfl, rfl⟩
      exact ⟨rfl, World.grownBy.refl _ _, h⟩
    | cons m q =>
      rw [hq] at hQM hc8
      refine ⟨0, ?_⟩
      have := drop_first w _ _ _ _ Q hN x hx m q hq
      rw [e1, e2] at this
      refine this.mono ?_
      rintro e w1 ⟨rfl, hN1, hT, hB⟩
      have hR1 := hR.turn hT
      have hs1 := hT.size
      have hc81 := hc8.1
      rw [List.length_cons] at hc81
      refine ⟨rfl, hT, hB, ?_⟩
      refine (rdrop_first w1 _ _ _ _ M hR1 i j hi hj hl m.l (q.map Msg.l) (by rw [← hQM]; rfl) (by rw [List.length_map]; omega)).mono ?_
      rintro e w2 ⟨rfl, hR2, g2⟩
      exact ⟨rfl, g2, both_step h.links h.good (by have := h.le; have := g2.size; omega) (hN1.off hR1 g2) hR2 hs hc hx e1 e2 (fun y hy => rfl) (fun a b => rfl) rfl (by omega) (fun m' hm' => hc8.2 m' (List.mem_cons_of_mem _ hm'))⟩
  · refine ⟨140, ?_⟩
    refine (drop_out w _ _ _ _ Q hN f t wf wt hno).mono ?_
    rintro e w1 ⟨rfl, rfl⟩
    refine ⟨rfl, Turns.refl _, Below.refl _ _, ?_⟩
    refine (rdrop_no w _ f t (hnl w M hR)).mono ?_
    rintro e w1 ⟨rfl, rfl⟩
    exact ⟨rfl, World.grownBy.refl _ _, h⟩
theorem pair_turn : Pair X w 18 33 #[.pointer (some ⟨X.qn, 0, none⟩), .int .i64 f, .int .i64 t] #[.pointer (some ⟨X.qr, 0, none⟩), .int .i64 f, .int .i64 t] := by
  obtain ⟨Q, M, hN, hR, hs, hc⟩ := h.ex
  rcases link_or h.links h.good f t with ⟨x, hx, i, j, e1, e2, rfl, rfl, hi, hj, hl⟩ | ⟨hno, hnl⟩
  · have hQM := hs x hx i j e1 e2
    have hc8 := hc x hx
    cases hq : Q x.c with
    | nil =>
      rw [hq] at hQM
      refine ⟨141, ?_⟩
      have := turn_empty w _ _ _ _ Q hN x hx hq
      rw [e1, e2] at this
      refine this.mono ?_
      rintro e w1 ⟨rfl, rfl⟩
      refine ⟨rfl, Turns.refl _, Below.refl _ _, ?_⟩
      refine (rturn_empty w _ _ _ _ M hR i j hi hj hl hQM.symm).mono ?_
      rintro e w1 ⟨rfl, rfl⟩
      exact ⟨rfl, World.grownBy.refl _ _, h⟩
    | cons m q =>
      rw [hq] at hQM hc8
      have hc81 := hc8.1
      rw [List.length_cons] at hc81
      refine ⟨0, ?_⟩
      have := turn_first w _ _ _ _ Q hN x hx m q hq (by omega)
      rw [e1, e2] at this
      refine this.mono ?_
      rintro e w1 ⟨rfl, hN1, hT, hB⟩
      have hR1 := hR.turn hT
      have hs1 := hT.size
      refine ⟨rfl, hT, hB, ?_⟩
      refine (rturn_first w1 _ _ _ _ M hR1 i j hi hj hl m.l (q.map Msg.l) (by rw [← hQM]; rfl) (by rw [List.length_map]; omega) (by have := hc8.2 m List.mem_cons_self; omega)).mono ?_
      rintro e w2 ⟨rfl, hR2, g2⟩
      refine ⟨rfl, g2, both_step h.links h.good (by have := h.le; have := g2.size; omega) (hN1.off hR1 g2) hR2 hs hc hx e1 e2 (fun y hy => rfl) (fun a b => rfl) (by simp) (by simp; omega) (fun m' hm' => ?_)⟩
      rcases List.mem_append.1 hm' with hm' | hm'
      · exact hc8.2 m' (List.mem_cons_of_mem _ hm')
      · rw [List.mem_singleton] at hm'
        rw [hm']
        exact hc8.2 m List.mem_cons_self
  · refine ⟨140, ?_⟩
    refine (turn_out w _ _ _ _ Q hN f t wf wt hno).mono ?_
    rintro e w1 ⟨rfl, rfl⟩
    refine ⟨rfl, Turns.refl _, Below.refl _ _, ?_⟩
    refine (rturn_no w _ f t (hnl w M hR)).mono ?_
    rintro e w1 ⟨rfl, rfl⟩
    exact ⟨rfl, World.grownBy.refl _ _, h⟩
theorem pair_twice : Pair X w 17 32 #[.pointer (some ⟨X.qn, 0, none⟩), .int .i64 f, .int .i64 t] #[.pointer (some ⟨X.qr, 0, none⟩), .int .i64 f, .int .i64 t] := by
  obtain ⟨Q, M, hN, hR, hs, hc⟩ := h.ex
  rcases link_or h.links h.good f t with ⟨x, hx, i, j, e1, e2, rfl, rfl, hi, hj, hl⟩ | ⟨hno, hnl⟩
  · have hQM := hs x hx i j e1 e2
    have hc8 := hc x hx
    cases hq : Q x.c with
    | nil =>
      rw [hq] at hQM
      refine ⟨141, ?_⟩
      have := twice_no w _ _ _ _ Q hN x hx 0 (by rw [hq]; rfl) (.inl rfl)
      rw [e1, e2] at this
      refine this.mono ?_
      rintro e w1 ⟨rfl, rfl⟩
      refine ⟨rfl, Turns.refl _, Below.refl _ _, ?_⟩
      refine (rtwice_empty w _ _ _ _ M hR i j hi hj hl hQM.symm).mono ?_
      rintro e w1 ⟨rfl, rfl⟩
      exact ⟨rfl, World.grownBy.refl _ _, h⟩
    | cons m q =>
      have hqe := hq
      rw [hq] at hQM hc8
      have hc81 := hc8.1
      rw [List.length_cons] at hc81
      have hml := hc8.2 m List.mem_cons_self
      by_cases h8 : q.length + 1 < 8
      · refine ⟨0, ?_⟩
        have := twice_ok w _ _ _ _ Q hN x hx m q hq h8 h.le (by omega)
        rw [e1, e2] at this
        refine this.mono ?_
        rintro e w1 ⟨rfl, m2, hm2, _, hN1, hT, hB⟩
        have hR1 := hR.turn hT
        have hs1 := hT.size
        refine ⟨rfl, hT, hB, ?_⟩
        refine (rtwice_first w1 _ _ _ _ M hR1 i j hi hj hl m.l (q.map Msg.l) (by rw [← hQM]; rfl) (by rw [List.length_map]; omega) (by omega)).mono ?_
        rintro e w2 ⟨rfl, hR2, g2⟩
        refine ⟨rfl, g2, both_step h.links h.good (by have := h.le; have := g2.size; omega) (hN1.off hR1 g2) hR2 hs hc hx e1 e2 (fun y hy => rfl) (fun a b => rfl) (by rw [← hQM]; simp [hm2]) (by simp; omega) (fun m' hm' => ?_)⟩
        rw [← List.cons_append] at hm'
        rcases List.mem_append.1 hm' with hm' | hm'
        · exact hc8.2 m' hm'
        · rw [List.mem_singleton] at hm'
          rw [hm', hm2]
          exact hml
      · refine ⟨141, ?_⟩
        have := twice_no w _ _ _ _ Q hN x hx 8 (by rw [hqe, List.length_cons]; omega) (.inr rfl)
        rw [e1, e2] at this
        refine this.mono ?_
        rintro e w1 ⟨rfl, rfl⟩
        refine ⟨rfl, Turns.refl _, Below.refl _ _, ?_⟩
        refine (rtwice_full w _ _ _ _ M hR i j hi hj hl m.l (q.map Msg.l) (by rw [← hQM]; rfl) (by rw [List.length_map]; omega)).mono ?_
        rintro e w1 ⟨rfl, rfl⟩
        exact ⟨rfl, World.grownBy.refl _ _, h⟩
  · refine ⟨140, ?_⟩
    refine (twice_out w _ _ _ _ Q hN f t wf wt hno).mono ?_
    rintro e w1 ⟨rfl, rfl⟩
    refine ⟨rfl, Turns.refl _, Below.refl _ _, ?_⟩
    refine (rtwice_no w _ f t (hnl w M hR)).mono ?_
    rintro e w1 ⟨rfl, rfl⟩
    exact ⟨rfl, World.grownBy.refl _ _, h⟩
/-- Take: the same bytes, and the same error. -/
theorem pair_take : ∃ (r : Int) (b : List UInt8), Calls Try.prog 15 #[.pointer (some ⟨X.qn, 0, none⟩), .int .i64 f, .int .i64 t] w fun e w1 => ∃ A c, e = .returned (.tuple #[.slice A b.length c, .int .i64 r]) ∧ Turns w w1 ∧ Below X.base w w1 ∧
    Calls Try.prog 30 #[.pointer (some ⟨X.qr, 0, none⟩), .int .i64 f, .int .i64 t] w1 fun e w2 => ∃ A' c', e = .returned (.tuple #[.slice A' b.length c', .int .i64 r]) ∧ w1.grownBy w2 (some X.qr) ∧ Both X w2 ∧ Bytes w2 w2.heap.size A b ∧ Bytes w2 w2.heap.size A' b := by
  obtain ⟨Q, M, hN, hR, hs, hc⟩ := h.ex
  rcases link_or h.links h.good f t with ⟨x, hx, i, j, e1, e2, rfl, rfl, hi, hj, hl⟩ | ⟨hno, hnl⟩
  · have hQM := hs x hx i j e1 e2
    have hc8 := hc x hx
    cases hq : Q x.c with
    | nil =>
      rw [hq] at hQM
      refine ⟨141, [], ?_⟩
      have := take_empty w _ _ _ _ Q hN x hx hq
      rw [e1, e2] at this
      refine this.mono ?_
      rintro e w1 ⟨rfl, rfl⟩
      refine ⟨none, 0, rfl, Turns.refl _, Below.refl _ _, ?_⟩
      refine (rtake_empty w _ _ _ _ M hR i j hi hj hl hQM.symm).mono ?_
      rintro e w1 ⟨rfl, rfl⟩
      exact ⟨none, 0, rfl, World.grownBy.refl _ _, h, .inl rfl, .inl rfl⟩
    | cons m q =>
      have hyb := (hN.q x hx).2 m (by rw [hq]; exact List.mem_cons_self)
      have hq2 := hq
      rw [hq] at hQM hc8
      have hc81 := hc8.1
      rw [List.length_cons] at hc81
      refine ⟨0, m.l, ?_⟩
      have := take_first w _ _ _ _ Q hN x hx m q hq2
      rw [e1, e2] at this
      refine this.mono ?_
      rintro e w1 ⟨rfl, hN1, hT, hB⟩
      have hR1 := hR.turn hT
      have hs1 := hT.size
      refine ⟨m.A, m.c, rfl, hT, hB, ?_⟩
      refine (rtake_first w1 _ _ _ _ M hR1 i j hi hj hl m.l (q.map Msg.l) (by rw [← hQM]; rfl) (by rw [List.length_map]; omega)).mono ?_
      rintro e w2 ⟨A', c', rfl, hy', hR2, g2⟩
      exact ⟨A', c', rfl, g2, both_step h.links h.good (by have := h.le; have := g2.size; omega) (hN1.off hR1 g2) hR2 hs hc hx e1 e2 (fun y hy => rfl) (fun a b => rfl) rfl (by omega) (fun m' hm' => hc8.2 m' (List.mem_cons_of_mem _ hm')), (hyb.turn hT hT.size).off hR1 g2, hy'⟩
  · refine ⟨140, [], ?_⟩
    refine (take_out w _ _ _ _ Q hN f t wf wt hno).mono ?_
    rintro e w1 ⟨rfl, rfl⟩
    refine ⟨none, 0, rfl, Turns.refl _, Below.refl _ _, ?_⟩
    refine (rtake_no w _ f t (hnl w M hR)).mono ?_
    rintro e w1 ⟨rfl, rfl⟩
    exact ⟨none, 0, rfl, World.grownBy.refl _ _, h, .inl rfl, .inl rfl⟩
end
theorem pair_empty {X : Fix} {w : World} (h : Both X w) (br : Int) : Calls Try.prog 16 #[.pointer (some ⟨X.qn, 0, none⟩), .int .i64 br] w fun e w1 => e = .returned (.tuple #[]) ∧ Turns w w1 ∧ Below X.base w w1 ∧
    Calls Try.prog 34 #[.pointer (some ⟨X.qr, 0, none⟩), .int .i64 br] w1 fun e w2 => e = .returned (.tuple #[]) ∧ w1.grownBy w2 (some X.qr) ∧ Both X w2 := by
  obtain ⟨Q, M, hN, hR, hs, hc⟩ := h.ex
  refine (empty_any w _ _ _ _ Q hN br h.le (fun x hx => (hc x hx).1)).mono ?_
  rintro e w1 ⟨rfl, R, hN1, hRe, hT, hB⟩
  have hR1 := hR.turn hT
  refine ⟨rfl, hT, hB, ?_⟩
  refine (rempty w1 _ _ _ _ M hR1 br).mono ?_
  rintro e w2 ⟨rfl, hR2, g2⟩
  refine ⟨rfl, g2, h.links, h.good, by have := h.le; have := g2.size; have := hT.size; omega, R, _, hN1.off hR1 g2, hR2, fun x hx i j h1 h2 => ?_, fun x hx => ?_⟩
  · rw [hRe x hx]
    unfold emptied
    rw [h1, h2]
    split
    · rfl
    · exact hs x hx i j h1 h2
  · rw [hRe x hx]
    unfold emptied
    split
    · exact ⟨by simp, fun m hm => by simp at hm⟩
    · exact hc x hx
end Go.Proofs.Ytbniaojldjhemaa
