/- The walk of Empty: all links that touch a broker have no message behind it, the others keep theirs. -/
import Derived.Test.YtbniaojldjhemaaIter
namespace Go.Proofs.Ytbniaojldjhemaa
open Go.Conc Go.RowKit Go.Maps

/-- What a link holds behind Empty. -/
def emptied (b : Int) (x : Link) (q : List Msg) : List Msg := if x.f = b ∨ x.t = b then [] else q

theorem link_index {L : List Link} (hf : Fair L) {i j : Nat} (hi : i < L.length) (hj : j < L.length) (h : L[i] = L[j]) : i = j := by
  have hp := List.pairwise_iff_getElem.1 hf.nodup
  rcases Nat.lt_trichotomy i j with hl | hl | hl
  · exact absurd (by rw [h]; exact ⟨rfl, rfl⟩) (hp i j hi hj hl)
  · exact hl
  · exact absurd (by rw [h]; exact ⟨rfl, rfl⟩) (hp j i hj hi hl)

/-- How the links stand when one more has come. -/
theorem seen_step {L : List Link} (hf : ∀ x ∈ L, ∀ y ∈ L, x.c = y.c → x = y) (hF : Fair L) {b : Int} {Q R R' : Nat → List Msg} {seen : Array Nat} {i : Nat} (hi : i < L.length) (h : ∀ (j : Nat) (hj : j < L.length), R L[j].c = if seen.contains j then emptied b L[j] (Q L[j].c) else Q L[j].c)
    (hi' : R' L[i].c = emptied b L[i] (Q L[i].c)) (ho : ∀ c, c ≠ L[i].c → R' c = R c) : ∀ (j : Nat) (hj : j < L.length), R' L[j].c = if (seen.push i).contains j then emptied b L[j] (Q L[j].c) else Q L[j].c := fun j hj => by
  by_cases e : j = i
  · subst e
    rw [if_pos (by simp)]
    exact hi'
  · have hne : L[j].c ≠ L[i].c := fun hc => e (link_index hF hj hi (hf _ (List.getElem_mem hj) _ (List.getElem_mem hi) hc))
    rw [ho _ hne, h j hj]
    simp [e]

set_option maxRecDepth 100000 in
set_option maxHeartbeats 4000000 in
theorem empty_any (w : World) (base qn B : Nat) (L : List Link) (Q : Nat → List Msg) (h : NetAt w base qn B L Q) (b : Int) (hbase : base ≤ w.heap.size) (h8 : ∀ x ∈ L, (Q x.c).length ≤ 8) :
    Calls Try.prog 16 #[.pointer (some ⟨qn, 0, none⟩), .int .i64 b] w fun e w' => e = .returned (.tuple #[]) ∧ ∃ R, NetAt w' base qn B L R ∧ (∀ x ∈ L, R x.c = emptied b x (Q x.c)) ∧ Turns w w' ∧ Below base w w' := by
  have c0 := h.blk.cell 0
  simp at c0
  obtain ⟨es, hB, hpairs, hborn⟩ := h.map
  have hBlt : B < w.heap.size := (Array.getElem?_eq_some_iff.1 hB).1
  have hrun := run_range_map (P := Try.prog) w 51 57 55 B es L.length Try.underlying51 hB
  have hal : Below base w (w.alloc (.mapIter (some B) L.length #[] L.length)) := (Below.refl _ _).alloc hbase _
  have hal' : Below w.heap.size w (w.alloc (.mapIter (some B) L.length #[] L.length)) := (Below.refl _ _).alloc (Nat.le_refl _) _
  have I0 : IterAt (w.alloc (.mapIter (some B) L.length #[] L.length)) w.heap.size B L es #[] := ⟨(hal'.block B hBlt).trans hB, hpairs, hborn, L.length, heap_alloc_new w _, Nat.le_refl _⟩
  have N0 := h.below hal'
  have T0 := Turns.of_below hal'
  go_enter Try.func16, Try.ntmps16
  go_wp2_with fail
  generalize w.alloc (.mapIter (some B) L.length #[] L.length) = w0 at *
  go_loopw [4] (fun _ wr => ∃ (seen : Array Nat) (R : Nat → List Msg), IterAt wr w.heap.size B L es seen ∧ NetAt wr base qn B L R ∧ Hid (∀ (i : Nat) (hi : i < L.length), R L[i].c = if seen.contains i then emptied b L[i] (Q L[i].c) else Q L[i].c) ∧ Turns w wr ∧ Below base w wr) (fun _ wr => wr.rangeLeft B w.heap.size)
  case atStart => exact ⟨#[], Q, I0, N0, fun i hi => by simp, T0, hal⟩
  case round =>
    obtain ⟨seen, R, I1, N1, HR, T1, B1⟩ := hrel
    have hs1 := T1.size
    have hBr : B ≠ w.heap.size := by omega
    have hlf := I1.left
    go_wp2_with (first
      | (at_next; refine wpList_next_links rfl _ rfl rfl I1 hBr ?_ ?_)
      | fail)
    · intro hall
      have HALL := Lib.hid hall
      go_wp2_with fail
      go_end0
      refine ⟨rfl, R, N1, fun x hx => ?_, T1, B1⟩
      obtain ⟨i, hi, rfl⟩ := List.getElem_of_mem hx
      rw [HR.out i hi, if_pos (by simpa using HALL.out i hi)]
    · intro i hi w1 hns I2 g2 s2 hlt hen
      obtain ⟨x, hxe⟩ : ∃ x, x = L[i] := ⟨_, rfl⟩
      have hx : x ∈ L := by rw [hxe]; exact List.getElem_mem hi
      rw [← hxe] at hen
      rw [← hxe]
      unfold keyV at hen ⊢
      obtain ⟨c0', hit, _⟩ := I1.it
      have hrl : w.heap.size < wr.heap.size := (Array.getElem?_eq_some_iff.1 hit).1
      have N2 := N1.iter hit g2
      have T2 := T1.iter g2 (Nat.le_refl _)
      have B2 : Below base w w1 := B1.grown g2 (by omega) (fun k hk => by injection hk with hk; omega)
      have HSTEP : Hid (∀ R' : Nat → List Msg, R' x.c = emptied b x (Q x.c) → (∀ c, c ≠ x.c → R' c = R c) → ∀ (j : Nat) (hj : j < L.length), R' L[j].c = if (seen.push i).contains j then emptied b L[j] (Q L[j].c) else Q L[j].c) := fun R' h1 h2 => by
        rw [hxe] at h1 h2
        exact seen_step h.apart h.fair hi HR.out h1 h2
      have HRX : Hid (R x.c = Q x.c) := by
        have := HR.out i hi
        show R x.c = Q x.c
        rw [hxe, this, if_neg (by simpa using hns)]
      have HLT := Lib.hid hlt
      clear hxe hns hlt hit
      /- the alloc of the round -/
      have hbA : Below w1.heap.size w1 (w1.alloc (.cells #[.int .i64 x.f, .int .i64 x.t] 57)) := (Below.refl _ _).alloc (Nat.le_refl _) _
      have I3 : IterAt (w1.alloc (.cells #[.int .i64 x.f, .int .i64 x.t] 57)) w.heap.size B L es (seen.push i) := I2.kept (hbA.block _ (by omega)) (hbA.block _ (by omega))
      have N3 := N2.below hbA
      have T3 := T2.trans (Turns.of_below hbA)
      have B3 : Below base w (w1.alloc (.cells #[.int .i64 x.f, .int .i64 x.t] 57)) := B2.trans (hbA.mono (by omega))
      have hlf3 := I3.left
      by_cases hsk : (x.f ≠ b ∧ x.t ≠ b)
      · have e1 : (x.f != b) = true := by simpa using hsk.1
        have e2 : (x.t != b) = true := by simpa using hsk.2
        have hem : Hid (emptied b x (Q x.c) = Q x.c) := by
          show emptied b x (Q x.c) = Q x.c
          unfold emptied
          rw [if_neg (by omega)]
        clear hsk
        go_wp2_with fail
        go_roundw
        case rel => exact ⟨seen.push i, R, I3, N3, HSTEP.out R (HRX.out.trans hem.out.symm) (fun _ _ => rfl), T3, B3⟩
        case measure => rw [hlf3, hlf]; exact HLT.out
      · have hem : Hid (emptied b x (Q x.c) = []) := by
          show emptied b x (Q x.c) = []
          unfold emptied
          rw [if_pos (by omega)]
        obtain ⟨⟨s, r, hc⟩, hms⟩ := N3.q x hx
        have hlen := fun ty => run_len_chan (P := Try.prog) 55 ty Try.underlying55 hc
        simp only [List.size_toArray, List.length_map] at hlen
        obtain ⟨n, hn⟩ : ∃ n, n = (R x.c).length := ⟨_, rfl⟩
        rw [← hn] at hlen
        have HN := Lib.hid hn
        have hn8 : n ≤ 8 := by have := h8 x hx; rw [hn, HRX.out]; exact this
        clear hn hc hms
        obtain ⟨w2, hw2⟩ : ∃ w2, w2 = w1.alloc (.cells #[.int .i64 x.f, .int .i64 x.t] 57) := ⟨_, rfl⟩
        by_cases hf : x.f = b
        · have e1 : (x.f != b) = false := by simpa using hf
          clear hsk hf
          go_wp2_with fail
          generalize w1.alloc (.cells #[.int .i64 x.f, .int .i64 x.t] 57) = w2 at *
          go_loopw [30] (fun k_ wk => ∃ k : Nat, k_ = .int .i64 k ∧ k ≤ n ∧ IterAt wk w.heap.size B L es (seen.push i) ∧ NetAt wk base qn B L (fun c => if c = x.c then (R x.c).drop k else R c) ∧ Turns w wk ∧ Below base w wk) (fun k _ => n - (intOf k).toNat)
          case atStart => exact ⟨0, rfl, by omega, I3, N3.congr (fun y _ => by by_cases e : y.c = x.c <;> simp [e]), T3, B3⟩
          case round =>
            obtain ⟨k, rfl, hk, I4, N4, T4, B4⟩ := hrel
            have hlf4 := I4.left
            by_cases hkn : k < n
            · obtain ⟨⟨s4, r4, hc4⟩, hms4⟩ := N4.q x hx
              have hd : (R x.c).drop k = (R x.c)[k]'(by have := HN.out; omega) :: (R x.c).drop (k + 1) := List.drop_eq_getElem_cons _
              simp only [if_true, hd] at hc4 hms4
              obtain ⟨t1, t2, t3⟩ := N4.turn hx ((R x.c).drop (k + 1)) s4 (r4 + 1) (fun m hm => hms4 m (List.mem_cons_of_mem _ hm))
              have tk := take_list x.c (((R x.c).drop (k + 1)).map Msg.val) _ s4 r4 _ hc4
              obtain ⟨w5, hw5⟩ : ∃ w5, w5 = wr.setChan x.c 8 (((R x.c).drop (k + 1)).map Msg.val).toArray false s4 (r4 + 1) false := ⟨_, rfl⟩
              rw [← hw5] at t1 t2 t3 tk
              have I5 := I4.turn t2
              have N5 := t1.again
              have T5 := T4.trans t2
              have B5 := B4.trans t3
              have TK := Lib.hid tk
              clear tk hd hc4 hms4 t1 t2 t3 hw5
              go_wp2_with fail
              refine TK.out.mono ?_
              rintro e w6 ⟨rfl, rfl⟩
              go_wp2_with fail
              go_roundw
              case rel => exact ⟨k + 1, by go_num, by omega, I5, N5, T5, B5⟩
              case measure => simp [intOf]; omega
            · have hge : (n : Int) ≤ (k : Int) := by omega
              have hkn' : k = n := by omega
              have HKN := Lib.hid hkn'
              clear hkn'
              go_wp2_with fail
              go_roundw
              case rel =>
                have hq : (fun c => if c = x.c then (R x.c).drop k else R c) x.c = emptied b x (Q x.c) := by
                  rw [hem.out, HKN.out, HN.out]
                  simp
                exact ⟨seen.push i, _, I4, N4, HSTEP.out _ hq (fun c hne => if_neg hne), T4, B4⟩
              case measure => rw [hlf4, hlf]; exact HLT.out
        · have e1 : (x.f != b) = true := by simpa using hf
          have e2 : (x.t != b) = false := by
            have : x.t = b := by omega
            simpa using this
          clear hsk hf
          go_wp2_with fail
          generalize w1.alloc (.cells #[.int .i64 x.f, .int .i64 x.t] 57) = w2 at *
          go_loopw [30] (fun k_ wk => ∃ k : Nat, k_ = .int .i64 k ∧ k ≤ n ∧ IterAt wk w.heap.size B L es (seen.push i) ∧ NetAt wk base qn B L (fun c => if c = x.c then (R x.c).drop k else R c) ∧ Turns w wk ∧ Below base w wk) (fun k _ => n - (intOf k).toNat)
          case atStart => exact ⟨0, rfl, by omega, I3, N3.congr (fun y _ => by by_cases e : y.c = x.c <;> simp [e]), T3, B3⟩
          case round =>
            obtain ⟨k, rfl, hk, I4, N4, T4, B4⟩ := hrel
            have hlf4 := I4.left
            by_cases hkn : k < n
            · obtain ⟨⟨s4, r4, hc4⟩, hms4⟩ := N4.q x hx
              have hd : (R x.c).drop k = (R x.c)[k]'(by have := HN.out; omega) :: (R x.c).drop (k + 1) := List.drop_eq_getElem_cons _
              simp only [if_true, hd] at hc4 hms4
              obtain ⟨t1, t2, t3⟩ := N4.turn hx ((R x.c).drop (k + 1)) s4 (r4 + 1) (fun m hm => hms4 m (List.mem_cons_of_mem _ hm))
              have tk := take_list x.c (((R x.c).drop (k + 1)).map Msg.val) _ s4 r4 _ hc4
              obtain ⟨w5, hw5⟩ : ∃ w5, w5 = wr.setChan x.c 8 (((R x.c).drop (k + 1)).map Msg.val).toArray false s4 (r4 + 1) false := ⟨_, rfl⟩
              rw [← hw5] at t1 t2 t3 tk
              have I5 := I4.turn t2
              have N5 := t1.again
              have T5 := T4.trans t2
              have B5 := B4.trans t3
              have TK := Lib.hid tk
              clear tk hd hc4 hms4 t1 t2 t3 hw5
              go_wp2_with fail
              refine TK.out.mono ?_
              rintro e w6 ⟨rfl, rfl⟩
              go_wp2_with fail
              go_roundw
              case rel => exact ⟨k + 1, by go_num, by omega, I5, N5, T5, B5⟩
              case measure => simp [intOf]; omega
            · have hge : (n : Int) ≤ (k : Int) := by omega
              have hkn' : k = n := by omega
              have HKN := Lib.hid hkn'
              clear hkn'
              go_wp2_with fail
              go_roundw
              case rel =>
                have hq : (fun c => if c = x.c then (R x.c).drop k else R c) x.c = emptied b x (Q x.c) := by
                  rw [hem.out, HKN.out, HN.out]
                  simp
                exact ⟨seen.push i, _, I4, N4, HSTEP.out _ hq (fun c hne => if_neg hne), T4, B4⟩
              case measure => rw [hlf4, hlf]; exact HLT.out
end Go.Proofs.Ytbniaojldjhemaa
