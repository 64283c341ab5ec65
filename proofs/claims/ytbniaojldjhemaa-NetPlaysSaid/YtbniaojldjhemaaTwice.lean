/- The walk of Twice. -/
import Derived.Test.YtbniaojldjhemaaOps
namespace Go.Proofs.Ytbniaojldjhemaa
open Go.Conc Go.RowKit Go.Maps
section
variable (w : World) (base qn B : Nat) (L : List Link) (Q : Nat → List Msg) (h : NetAt w base qn B L Q)
include h
theorem twice_out (f t : Int) (hf : (Lit.int .i64 f).wf = true) (ht : (Lit.int .i64 t).wf = true) (hno : ∀ x ∈ L, ¬ (x.f = f ∧ x.t = t)) : Calls Try.prog 17 #[.pointer (some ⟨qn, 0, none⟩), .int .i64 f, .int .i64 t] w fun e w' => e = .returned (.int .i64 140) ∧ w = w' := by
  have HNO := Lib.hid hno
  clear hno
  go_enter Try.func17, Try.ntmps17
  go_wp2_with fail
  refine (link_out w base qn B L Q h f t hf ht HNO.out).mono ?_
  rintro e w1 ⟨rfl, rfl⟩
  go_wp2
  go_ret
  exact ⟨rfl, rfl⟩
theorem twice_no (x : Link) (hx : x ∈ L) (k : Nat) (hk : (Q x.c).length = k) (hq : k = 0 ∨ k = 8) : Calls Try.prog 17 #[.pointer (some ⟨qn, 0, none⟩), .int .i64 x.f, .int .i64 x.t] w fun e w' => e = .returned (.int .i64 141) ∧ w = w' := by
  obtain ⟨⟨s, r, hc⟩, _⟩ := h.q x hx
  have hlen := fun ty => run_len_chan (P := Try.prog) 55 ty Try.underlying55 hc
  simp only [List.size_toArray, List.length_map, hk] at hlen
  clear hk
  rcases hq with rfl | rfl
  all_goals
    go_enter Try.func17, Try.ntmps17
    go_wp2_with fail
    refine (link_in w base qn B L Q h x hx).mono ?_
    rintro e w1 ⟨rfl, rfl⟩
    go_wp2
    go_ret
    exact ⟨rfl, rfl⟩
set_option maxHeartbeats 2000000 in
theorem twice_ok (x : Link) (hx : x ∈ L) (m : Msg) (q : List Msg) (hq : Q x.c = m :: q) (h8 : q.length + 1 < 8) (hbase : base ≤ w.heap.size) (hm : m.l.length ≤ 1000000) :
    Calls Try.prog 17 #[.pointer (some ⟨qn, 0, none⟩), .int .i64 x.f, .int .i64 x.t] w fun e w' => e = .returned (.int .i64 0) ∧ ∃ m2 : Msg, m2.l = m.l ∧ w'.ownsRow w.heap.size 5 1 m2.val m.l.length (bytesV m.l) ∧
      NetAt w' base qn B L (fun k => if k = x.c then m :: (q ++ [m2]) else Q k) ∧ Turns w w' ∧ Below base w w' := by
  obtain ⟨⟨s, r, hc⟩, hms⟩ := h.q x hx
  have hlen := fun ty => run_len_chan (P := Try.prog) 55 ty Try.underlying55 hc
  obtain ⟨K, hK⟩ : ∃ K, K = m :: q := ⟨_, rfl⟩
  obtain ⟨n, hn⟩ : ∃ n, n = K.length := ⟨_, rfl⟩
  have hn1 : 1 ≤ n := by rw [hn, hK]; simp
  have hn8 : n < 8 := by rw [hn, hK]; simpa using h8
  rw [hq, ← hK] at hms
  simp only [List.size_toArray, List.length_map, hq, ← hK, ← hn] at hlen
  have h0 : NetAt w base qn B L (fun k => if k = x.c then K.drop 0 ++ K.take 0 else Q k) := h.congr (fun y _ => by
    by_cases e : y.c = x.c
    · simp [e, hq, hK]
    · simp [e])
  have HK := Lib.hid hK
  have HN := Lib.hid hn
  have HM := Lib.hid (show K[0]? = some m by rw [hK]; rfl)
  have hlt1 : (1 : Int) ≤ (n : Int) := by omega
  have e0 : ((n : Int) == 0) = false := by rw [beq_eq_false_iff_ne]; omega
  have e8 : ((n : Int) == 8) = false := by rw [beq_eq_false_iff_ne]; omega
  clear hq hK hn h8 hc
  go_enter Try.func17, Try.ntmps17
  go_wp2_with fail
  refine (link_in w base qn B L Q h x hx).mono ?_
  rintro e w1 ⟨rfl, rfl⟩
  go_wp2
  go_loopw [33, 10] (fun i_ f_ wr => ∃ i : Nat, i_ = .int .i64 i ∧ i ≤ n ∧ Hid (0 < i → f_ = m.val) ∧ NetAt wr base qn B L (fun k => if k = x.c then K.drop i ++ K.take i else Q k) ∧ Turns w wr ∧ Below base w wr) (fun i _ _ => n - (intOf i).toNat)
  case atStart => exact ⟨0, rfl, by omega, fun h => by omega, h0, Turns.refl _, Below.refl _ _⟩
  case round =>
    obtain ⟨i, rfl, hi, HF, hN, hT, hB⟩ := hrel
    by_cases hil : i < n
    · have hil' : (i : Int) < (n : Int) := by omega
      have hiK : i < K.length := by have := HN.out; omega
      obtain ⟨u, hu⟩ : ∃ u, K[i]? = some u := ⟨_, List.getElem?_eq_getElem hiK⟩
      have hui : K[i] = u := by
        rw [List.getElem?_eq_getElem hiK] at hu
        injection hu
      have hd : K.drop i = u :: K.drop (i + 1) := by rw [List.drop_eq_getElem_cons hiK, hui]
      have htk : K.take (i + 1) = K.take i ++ [u] := by rw [List.take_succ_eq_append_getElem hiK, hui]
      obtain ⟨⟨s1, r1, hc1⟩, hms1⟩ := hN.q x hx
      simp only [if_true, hd, List.cons_append] at hc1 hms1
      obtain ⟨n1, n2, n3⟩ := hN.turn hx (K.drop (i + 1) ++ K.take i) s1 (r1 + 1) (fun v hv => hms1 v (List.mem_cons_of_mem _ hv))
      have c1 := take_list x.c ((K.drop (i + 1) ++ K.take i).map Msg.val) u.val s1 r1 wr hc1
      obtain ⟨W1, hW1⟩ : ∃ W1, W1 = wr.setChan x.c 8 ((K.drop (i + 1) ++ K.take i).map Msg.val).toArray false s1 (r1 + 1) false := ⟨_, rfl⟩
      rw [← hW1] at n1 n2 n3 c1
      obtain ⟨⟨s2, r2, hc2⟩, hms2⟩ := n1.q x hx
      simp only [if_true] at hc2 hms2
      have hlen2 : ((K.drop (i + 1) ++ K.take i).map Msg.val).length < 8 := by
        rw [List.length_map, List.length_append, List.length_drop, List.length_take]
        have := HN.out
        omega
      have hq' : ((K.drop (i + 1) ++ K.take i).map Msg.val ++ [u.val]).toArray = ((K.drop (i + 1) ++ K.take (i + 1)).map Msg.val).toArray := by rw [htk]; simp
      obtain ⟨t1, t2, t3⟩ := n1.turn hx (K.drop (i + 1) ++ K.take (i + 1)) (s2 + 1) r2 (fun v hv => by
        rw [htk, ← List.append_assoc] at hv
        rcases List.mem_append.1 hv with hv | hv
        · exact hms2 v hv
        · rw [List.mem_singleton] at hv
          subst hv
          exact (hms1 v List.mem_cons_self).turn n2 n2.size)
      have c2 := put_list x.c ((K.drop (i + 1) ++ K.take i).map Msg.val) s2 r2 u.val _ hc2 hlen2
      rw [hq'] at c2
      obtain ⟨W2, hW2⟩ : ∃ W2, W2 = W1.setChan x.c 8 ((K.drop (i + 1) ++ K.take (i + 1)).map Msg.val).toArray false (s2 + 1) r2 false := ⟨_, rfl⟩
      rw [← hW2] at t1 t2 t3 c2
      have hF2 : Hid (NetAt _ base qn B L (fun k => if k = x.c then K.drop (i + 1) ++ K.take (i + 1) else Q k)) := t1.again.again
      have hu0 : Hid (i = 0 → u = m) := fun e => by
        have := HM.out
        rw [e] at hu
        rw [hu] at this
        injection this
      have hT2 := hT.trans (n2.trans t2)
      have hB2 := hB.trans (n3.trans t3)
      have C1 := Lib.hid c1
      have C2 := Lib.hid c2
      clear c1 c2 hd htk hq' hlen2 hui hu hc1 hc2 hms1 hms2 n1 n2 n3 t1 t2 t3 hW1 hW2
      by_cases hi0 : i = 0
      · have HF2 : Hid (0 < i + 1 → u.val = m.val) := fun _ => by rw [hu0.out hi0]
        have ei : ((i : Int) == 0) = true := by simp [hi0]
        clear hi0
        go_wp2_with fail
        refine C1.out.mono ?_
        rintro e w1 ⟨rfl, rfl⟩
        go_wp2_with fail
        refine C2.out.mono ?_
        rintro e w2 ⟨rfl, rfl⟩
        go_wp2_with fail
        go_roundw
        case rel => exact ⟨i + 1, by go_num, by omega, HF2, hF2.out, hT2, hB2⟩
        case measure => simp [intOf]; omega
      · have HF2 : Hid (0 < i + 1 → _ = m.val) := fun _ => HF.out (by omega)
        have ei : ((i : Int) == 0) = false := by rw [beq_eq_false_iff_ne]; omega
        clear hi0
        go_wp2_with fail
        refine C1.out.mono ?_
        rintro e w1 ⟨rfl, rfl⟩
        go_wp2_with fail
        refine C2.out.mono ?_
        rintro e w2 ⟨rfl, rfl⟩
        go_wp2_with fail
        go_roundw
        case rel => exact ⟨i + 1, by go_num, by omega, HF2, hF2.out, hT2, hB2⟩
        case measure => simp [intOf]; omega
    · have hge : (n : Int) ≤ (i : Int) := by omega
      have hKi : K.drop i ++ K.take i = K := by
        have := HN.out
        rw [List.drop_eq_nil_of_le (by omega), List.take_of_length_le (by omega), List.nil_append]
      obtain ⟨⟨s1, r1, hc1⟩, hms1⟩ := hN.q x hx
      simp only [if_true, hKi] at hc1 hms1 hN
      have hmm : m ∈ K := by rw [HK.out]; exact List.mem_cons_self
      have hby := hms1 m hmm
      have hf : _ = m.val := HF.out (by omega)
      subst hf
      clear hms1 hKi
      have hszr := hT.size
      unfold Msg.val
      go_wp2_with fail
      refine (clone_any m.A m.c _ m.l wr hby (Nat.le_refl _) (by omega)).mono ?_
      rintro e w2 ⟨A2, c2, rfl, ho2, hb2⟩
      have n2 := hN.below hb2
      obtain ⟨⟨s2, r2, hc2⟩, hms2⟩ := n2.q x hx
      simp only [if_true] at hc2 hms2
      go_wp2_with fail
      refine (put_list x.c (K.map Msg.val) s2 r2 _ w2 hc2 (by rw [List.length_map]; have := HN.out; omega)).mono ?_
      rintro e w3 ⟨rfl, rfl⟩
      go_wp2
      go_ret
      have hq' : (K.map Msg.val ++ [Value.slice A2 m.l.length c2]).toArray = ((K ++ [(⟨A2, c2, m.l⟩ : Msg)]).map Msg.val).toArray := by simp [Msg.val]
      obtain ⟨t1, t2, t3⟩ := n2.turn hx (K ++ [(⟨A2, c2, m.l⟩ : Msg)]) (s2 + 1) r2 (fun u hu => by
        rcases List.mem_append.1 hu with hu | hu
        · exact hms2 u hu
        · rw [List.mem_singleton] at hu
          subst hu
          exact Lies.of_own ho2)
      rw [hq']
      refine ⟨rfl, ⟨A2, c2, m.l⟩, rfl, ?_, t1.again.congr (fun y _ => by rw [HK.out]; rfl), hT.trans ((Turns.of_below hb2).trans t2), hB.trans ((hb2.mono (Nat.le_trans hbase hszr)).trans t3)⟩
      refine ⟨ho2.1, ?_⟩
      rcases ho2.2 with hn | ⟨g, cap, cur, hv, hg, hh, rest⟩
      · exact .inl hn
      · exact .inr ⟨g, cap, cur, hv, Nat.le_trans hszr hg, t2.block _ _ hh rfl, rest⟩
end
end Go.Proofs.Ytbniaojldjhemaa
