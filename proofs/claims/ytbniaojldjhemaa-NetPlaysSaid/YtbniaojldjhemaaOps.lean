/- The walks of Drop, Turn, Twice; calls on none. -/
import Derived.Test.YtbniaojldjhemaaNet
namespace Go.Proofs.Ytbniaojldjhemaa
open Go.Conc Go.RowKit Go.Maps

theorem NetAt.congr {w : World} {base qn B : Nat} {L : List Link} {Q Q' : Nat → List Msg} (h : NetAt w base qn B L Q) (e : ∀ x ∈ L, Q x.c = Q' x.c) : NetAt w base qn B L Q' :=
  ⟨h.blk, h.map, h.fair, h.apart, h.lo, fun x hx => by rw [← e x hx]; exact h.q x hx⟩
/-- Behind two turns of one link. -/
theorem NetAt.again {w : World} {base qn B c : Nat} {L : List Link} {Q : Nat → List Msg} {a b : List Msg} (h : NetAt w base qn B L (fun k => if k = c then b else (if k = c then a else Q k))) : NetAt w base qn B L (fun k => if k = c then b else Q k) :=
  h.congr (fun x _ => by
    by_cases e : x.c = c
    · simp [e]
    · simp [e])

theorem nil_send (f t : Int) (v : Value) (w : World) : Calls Try.prog 13 #[.pointer none, .int .i64 f, .int .i64 t, v] w fun e w' => e = .returned (.int .i64 1) ∧ w = w' := by
  go_enter Try.func13, Try.ntmps13
  go_wp2_with fail
  refine (link_nil f t w).mono ?_
  rintro e w1 ⟨rfl, rfl⟩
  go_wp2
  go_ret
  exact ⟨rfl, rfl⟩
theorem nil_take (f t : Int) (w : World) : Calls Try.prog 15 #[.pointer none, .int .i64 f, .int .i64 t] w fun e w' => e = .returned (.tuple #[.slice none 0 0, .int .i64 1]) ∧ w = w' := by
  go_enter Try.func15, Try.ntmps15
  go_wp2_with fail
  refine (link_nil f t w).mono ?_
  rintro e w1 ⟨rfl, rfl⟩
  go_wp2
  go_ret2
  exact ⟨rfl, rfl⟩
theorem nil_drop (f t : Int) (w : World) : Calls Try.prog 19 #[.pointer none, .int .i64 f, .int .i64 t] w fun e w' => e = .returned (.int .i64 1) ∧ w = w' := by
  go_enter Try.func19, Try.ntmps19
  go_wp2_with fail
  refine (nil_take f t w).mono ?_
  rintro e w1 ⟨rfl, rfl⟩
  go_wp2
  go_ret
  exact ⟨rfl, rfl⟩
theorem nil_twice (f t : Int) (w : World) : Calls Try.prog 17 #[.pointer none, .int .i64 f, .int .i64 t] w fun e w' => e = .returned (.int .i64 1) ∧ w = w' := by
  go_enter Try.func17, Try.ntmps17
  go_wp2_with fail
  refine (link_nil f t w).mono ?_
  rintro e w1 ⟨rfl, rfl⟩
  go_wp2
  go_ret
  exact ⟨rfl, rfl⟩
theorem nil_turn (f t : Int) (w : World) : Calls Try.prog 18 #[.pointer none, .int .i64 f, .int .i64 t] w fun e w' => e = .returned (.int .i64 1) ∧ w = w' := by
  go_enter Try.func18, Try.ntmps18
  go_wp2_with fail
  refine (link_nil f t w).mono ?_
  rintro e w1 ⟨rfl, rfl⟩
  go_wp2
  go_ret
  exact ⟨rfl, rfl⟩
theorem nil_long (f t : Int) (w : World) : Calls Try.prog 14 #[.pointer none, .int .i64 f, .int .i64 t] w fun e w' => e = .returned (.int .i64 0) ∧ w = w' := by
  go_enter Try.func14, Try.ntmps14
  go_wp2_with fail
  refine (link_nil f t w).mono ?_
  rintro e w1 ⟨rfl, rfl⟩
  go_wp2
  go_ret
  exact ⟨rfl, rfl⟩
theorem nil_empty (b : Int) (w : World) : Calls Try.prog 16 #[.pointer none, .int .i64 b] w fun e w' => e = .returned (.tuple #[]) ∧ w = w' := by
  go_enter Try.func16, Try.ntmps16
  go_wp2
  refine bodyPost_ret (results_none rfl _ _ _) rfl ?_
  exact ⟨rfl, rfl⟩

section
variable (w : World) (base qn B : Nat) (L : List Link) (Q : Nat → List Msg) (h : NetAt w base qn B L Q)
include h
theorem drop_out (f t : Int) (hf : (Lit.int .i64 f).wf = true) (ht : (Lit.int .i64 t).wf = true) (hno : ∀ x ∈ L, ¬ (x.f = f ∧ x.t = t)) : Calls Try.prog 19 #[.pointer (some ⟨qn, 0, none⟩), .int .i64 f, .int .i64 t] w fun e w' => e = .returned (.int .i64 140) ∧ w = w' := by
  have HNO := Lib.hid hno
  clear hno
  go_enter Try.func19, Try.ntmps19
  go_wp2_with fail
  refine (take_out w base qn B L Q h f t hf ht HNO.out).mono ?_
  rintro e w1 ⟨rfl, rfl⟩
  go_wp2
  go_ret
  exact ⟨rfl, rfl⟩
theorem drop_empty (x : Link) (hx : x ∈ L) (hq : Q x.c = []) : Calls Try.prog 19 #[.pointer (some ⟨qn, 0, none⟩), .int .i64 x.f, .int .i64 x.t] w fun e w' => e = .returned (.int .i64 141) ∧ w = w' := by
  have HQ := Lib.hid hq
  clear hq
  go_enter Try.func19, Try.ntmps19
  go_wp2_with fail
  refine (take_empty w base qn B L Q h x hx HQ.out).mono ?_
  rintro e w1 ⟨rfl, rfl⟩
  go_wp2
  go_ret
  exact ⟨rfl, rfl⟩
theorem drop_first (x : Link) (hx : x ∈ L) (m : Msg) (q : List Msg) (hq : Q x.c = m :: q) : Calls Try.prog 19 #[.pointer (some ⟨qn, 0, none⟩), .int .i64 x.f, .int .i64 x.t] w fun e w' => e = .returned (.int .i64 0) ∧
    NetAt w' base qn B L (fun k => if k = x.c then q else Q k) ∧ Turns w w' ∧ Below base w w' := by
  have HQ := Lib.hid hq
  clear hq
  go_enter Try.func19, Try.ntmps19
  go_wp2_with fail
  refine (take_first w base qn B L Q h x hx m q HQ.out).mono ?_
  rintro e w1 ⟨rfl, h1, h2, h3⟩
  unfold Msg.val
  go_wp2
  go_ret
  exact ⟨rfl, h1, h2, h3⟩
theorem turn_out (f t : Int) (hf : (Lit.int .i64 f).wf = true) (ht : (Lit.int .i64 t).wf = true) (hno : ∀ x ∈ L, ¬ (x.f = f ∧ x.t = t)) : Calls Try.prog 18 #[.pointer (some ⟨qn, 0, none⟩), .int .i64 f, .int .i64 t] w fun e w' => e = .returned (.int .i64 140) ∧ w = w' := by
  have HNO := Lib.hid hno
  clear hno
  go_enter Try.func18, Try.ntmps18
  go_wp2_with fail
  refine (link_out w base qn B L Q h f t hf ht HNO.out).mono ?_
  rintro e w1 ⟨rfl, rfl⟩
  go_wp2
  go_ret
  exact ⟨rfl, rfl⟩
theorem turn_empty (x : Link) (hx : x ∈ L) (hq : Q x.c = []) : Calls Try.prog 18 #[.pointer (some ⟨qn, 0, none⟩), .int .i64 x.f, .int .i64 x.t] w fun e w' => e = .returned (.int .i64 141) ∧ w = w' := by
  obtain ⟨⟨s, r, hc⟩, _⟩ := h.q x hx
  rw [hq] at hc
  clear hq
  go_enter Try.func18, Try.ntmps18
  go_wp2_with fail
  refine (link_in w base qn B L Q h x hx).mono ?_
  rintro e w1 ⟨rfl, rfl⟩
  go_wp2_with fail
  refine (take_none x.c s r w hc).mono ?_
  rintro e w1 ⟨rfl, rfl⟩
  go_wp2
  go_ret
  exact ⟨rfl, rfl⟩
theorem turn_first (x : Link) (hx : x ∈ L) (m : Msg) (q : List Msg) (hq : Q x.c = m :: q) (h8 : q.length < 8) : Calls Try.prog 18 #[.pointer (some ⟨qn, 0, none⟩), .int .i64 x.f, .int .i64 x.t] w fun e w' => e = .returned (.int .i64 0) ∧
    NetAt w' base qn B L (fun k => if k = x.c then q ++ [m] else Q k) ∧ Turns w w' ∧ Below base w w' := by
  obtain ⟨⟨s, r, hc⟩, hms⟩ := h.q x hx
  rw [hq] at hc hms
  have HQ := Lib.hid hq
  clear hq
  go_enter Try.func18, Try.ntmps18
  go_wp2_with fail
  refine (link_in w base qn B L Q h x hx).mono ?_
  rintro e w1 ⟨rfl, rfl⟩
  go_wp2_with fail
  refine (take_list x.c (q.map Msg.val) m.val s r w hc).mono ?_
  rintro e w1 ⟨rfl, rfl⟩
  obtain ⟨n1, n2, n3⟩ := h.turn hx q s (r + 1) (fun u hu => hms u (List.mem_cons_of_mem _ hu))
  generalize w.setChan x.c 8 (q.map Msg.val).toArray false s (r + 1) false = w1 at *
  obtain ⟨⟨s2, r2, hc2⟩, hms2⟩ := n1.q x hx
  simp only [if_true] at hc2 hms2
  go_wp2_with fail
  refine (put_list x.c (q.map Msg.val) s2 r2 m.val w1 hc2 (by rw [List.length_map]; exact h8)).mono ?_
  rintro e w2 ⟨rfl, rfl⟩
  go_wp2
  go_ret
  have hq' : (q.map Msg.val ++ [m.val]).toArray = ((q ++ [m]).map Msg.val).toArray := by simp
  obtain ⟨t1, t2, t3⟩ := n1.turn hx (q ++ [m]) (s2 + 1) r2 (fun u hu => by
    rcases List.mem_append.1 hu with hu | hu
    · exact hms2 u hu
    · rw [List.mem_singleton] at hu
      subst hu
      exact (hms u List.mem_cons_self).turn n2 n2.size)
  rw [hq']
  exact ⟨rfl, t1.again, n2.trans t2, n3.trans t3⟩
end
end Go.Proofs.Ytbniaojldjhemaa
