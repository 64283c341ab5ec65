/- NetOrder: for every [][]byte and []byte the law returns true, and both read behind the call as before. No conditions. -/
import Derived.Test.YtbniaojldjhemaaKept
import Derived.SizedLaws
namespace Go.Proofs.Ytbniaojldjhemaa.netOrder
open Go.Conc Go.ChangeShapes Go.WideShapes Go.ChangeAt Go.RowKit

theorem len_of {H : Type} {enc : TypeId × Value → H} {w : World} {base : Nat} {held : Bool} {a : Option Addr} {len cap : Nat} {d : DataW H} {p : List MemPlace} (h : DataW.Trod enc Try.prog w base (fun _ => true) held 24 (.slice a len cap) d p) :
    len = 0 ∨ ∃ elems spare, d = .slice elems spare ∧ elems.length = len := by
  obtain ⟨fuel, hf⟩ := h
  rcases open_ints Try.underlying24 Try.underlying5 (by kernel_rfl) hf with ⟨hcs, _⟩ | ⟨x, l, c, zs, hcs, _, hl, hm, hz, hx, _⟩
  · simp [Value.cells] at hcs
    exact .inl hcs.2.1
  · simp [Value.cells] at hcs
    obtain ⟨rfl, rfl, rfl⟩ := hcs
    simp only [if_true] at hz
    injection hx with h1 h2
    exact .inr ⟨_, _, h1, by simp [lits]; omega⟩
theorem bytes5 : Try.prog.bytesOf 5 = 1 := by kernel_rfl
theorem owned_each {w : World} {base : Nat} {L : List Link} {K O : List Msg} {a b : Nat} (hk : Owned w base K) (ho : Owned w base O) : ∀ z ∈ L, Owned w base (if z.c = a then K else if z.c = b then O else []) := fun z _ => by
  split
  · exact hk
  · split
    · exact ho
    · exact Owned.nil _ _

set_option maxRecDepth 100000 in
set_option maxHeartbeats 8000000 in
theorem walk_in (A A2 : Option Addr) (c c2 n : Nat) (ls : List (List UInt8)) (o : List UInt8) (w : World) (h : Texts w w.heap.size A ls) (hn : ls.length = n) (hm : n ≤ 9223372036854775807) (ho : Bytes w w.heap.size A2 o) (hol : o.length ≤ 140737488355328) :
    Calls Try.prog 4 #[.slice A n c, .slice A2 o.length c2] w fun e w' => e = .returned (.bool true) ∧ Below w.heap.size w w' := by
  obtain ⟨j0, hj0, hy0, hy1, hy2⟩ := info_parts Try.info24
  have HLN := Lib.hid hn
  clear hn
  go_enter Try.func4, Try.ntmps4
  go_wp2_with fail
  refine (awake_any _).mono ?_
  rintro e w1 ⟨rfl, hb1⟩
  have HT := const_three w1 (0, 0)
  go_wp2_with fail
  refine (new_ok _ _ _ _ _ (HT.more (by simp))).mono ?_
  rintro e w2 ⟨qn, B, L, rfl, N2, HL, hb2⟩
  simp only [World.size_alloc] at N2
  obtain ⟨⟨y, hy, hyf, hyt⟩, ⟨x, hx, hxf, hxt⟩⟩ := HL.all 2 (by omega) (by omega)
  simp only [p2] at hxf hyt
  have hxf' : x.f = 1 := by simpa using hxf
  have hxt' : x.t = 2 := by simpa using hxt
  have hyf' : y.f = 2 := by simpa using hyf
  have hyt' : y.t = 1 := by simpa using hyt
  have hne : Hid (¬ y.c = x.c) := fun e => by
    have := N2.apart y hy x hx e
    rw [this] at hyf'
    omega
  have HX := Lib.hid (And.intro hxf' hxt')
  have HY := Lib.hid (And.intro hyf' hyt')
  clear hxf hxt hxf' hxt' hyf hyt hyf' hyt' HL HT
  have hs2 := hb2.size
  simp only [World.size_alloc] at hs2
  have hb02 : Below w.heap.size w w2 := (hb1.alloc hb1.size _).trans (hb2.mono (by simp; have := hb1.size; omega))
  have hs02 := hb02.size
  have hs01 := hb1.size
  go_wp2_with fail
  go_loopw [8, 9] (fun kp_ i_ wr => ∃ (k m : Nat) (ks : List (List UInt8)) (xs : List Value) (A3 : Option Addr) (c3 : Nat) (K O : List Msg), kp_ = .slice A3 m c3 ∧ i_ = .int .i64 k ∧ k ≤ n ∧ m ≤ 8 ∧ Hid (ks.length = m) ∧ Hid (K.map Msg.l = ks) ∧ Hid (O.length = m) ∧ Hid (∀ p ∈ ks, p.length ≤ 200) ∧ wr.ownsRow w2.heap.size 24 1 (.slice A3 m c3) m xs ∧ Vals wr w.heap.size xs ks ∧
    NetAt wr (w1.heap.size + 1) qn B L (fun q => if q = x.c then K else if q = y.c then O else []) ∧ Owned wr w2.heap.size K ∧ Owned wr w2.heap.size O ∧ Below w.heap.size w wr ∧ w2.heap.size ≤ wr.heap.size) (fun _ i _ => n - (intOf i).toNat)
  case atStart => exact ⟨0, 0, [], [], none, 0, [], [], rfl, rfl, by omega, by omega, (rfl : _ = _), (rfl : _ = _), (rfl : _ = _), (fun p hp => by simp at hp), World.ownsRow_nil _ _ _ _, Vals.nil _ _, N2.congr (fun z _ => by simp), Owned.nil _ _, Owned.nil _ _, hb02, Nat.le_refl _⟩
  case round =>
    obtain ⟨k, m, ks, xs, A3, c3, K, O, rfl, rfl, hk, h8, HKs, HK, HO, HB, hown, hv, N3, OK, OO, hb03, hs23⟩ := hrel
    have hs03 := hb03.size
    by_cases hin : k < n ∧ k < 20
    · obtain ⟨hlt, h20⟩ := hin
      have hlt' : (k : Int) < (n : Int) := by omega
      have h20' : (k : Int) < 20 := by omega
      obtain ⟨b, off, A', c', rfl, _, hcell, hyp⟩ := (h.below hb03).at_ (k := k) (by rw [HLN.out]; exact hlt)
      generalize ls[k]'(by rw [HLN.out]; exact hlt) = p at *
      by_cases hp : 200 < p.length
      · go_wp2_with fail
        go_roundw
        case rel => exact ⟨k + 1, m, ks, xs, A3, c3, K, O, rfl, by go_num, by omega, h8, HKs, HK, HO, HB, hown, hv, N3, OK, OO, hb03, hs23⟩
        case measure => simp [intOf]; omega
      · have dp : p.length ≤ 200 := by omega
        have hKm : K.length = m := by have := congrArg List.length HK.out; rw [List.length_map, HKs.out] at this; exact this
        by_cases hr : m < 8
        · have hr' : (m : Int) < 8 := by omega
          have s1 := send_room_wide wr _ qn B L _ N3 x hx A' c' w.heap.size p hyp (by omega) (by omega) (by omega) (by simp only [if_true]; omega)
          rw [HX.out.1, HX.out.2] at s1
          have S1 := Lib.hid s1
          clear s1
          go_wp2_with fail
          refine S1.out.mono ?_
          clear S1
          rintro e w4 ⟨rfl, m1, hm1, ho4, N4, T4, B4⟩
          have hs4 := T4.size
          have hb04 := hb03.trans (B4.mono (by omega))
          have N4' : NetAt w4 (w1.heap.size + 1) qn B L (fun q => if q = x.c then K ++ [m1] else if q = y.c then O else []) := N4.congr (fun z _ => by
            by_cases e : z.c = x.c
            · simp [e]
            · simp [e])
          have s2 := send_room_wide w4 _ qn B L _ N4' y hy A2 c2 w.heap.size o (ho.below hb04) (by omega) (by omega) hol (by simp only [if_neg hne.out, if_true]; have := HO.out; omega)
          rw [HY.out.1, HY.out.2] at s2
          have S2 := Lib.hid s2
          clear s2 N4
          go_wp2_with fail
          refine S2.out.mono ?_
          clear S2
          rintro e w5 ⟨rfl, m2, hm2, ho5, N5, T5, B5⟩
          have hs5 := T5.size
          have hb05 := hb04.trans (B5.mono (by omega))
          have N5' : NetAt w5 (w1.heap.size + 1) qn B L (fun q => if q = x.c then K ++ [m1] else if q = y.c then O ++ [m2] else []) := N5.congr (fun z _ => by
            by_cases e : z.c = y.c
            · simp [e, hne.out]
            · simp [e])
          have ho4' : w4.ownsRow wr.heap.size 5 1 m1.val m1.l.length (bytesV m1.l) := by rw [hm1]; exact ho4
          have ho5' : w5.ownsRow w4.heap.size 5 1 m2.val m2.l.length (bytesV m2.l) := by rw [hm2]; exact ho5
          have OK5 : Owned w5 w2.heap.size (K ++ [m1]) := ((OK.turn T4).add ho4' hs23).turn T5
          have OO5 : Owned w5 w2.heap.size (O ++ [m2]) := ((OO.turn T4).turn T5).add ho5' (by omega)
          have hown5 := own_turned (own_turned hown T4) T5
          have hv5 : Vals w5 w.heap.size xs ks := hv.below ((B4.mono (by omega)).trans (B5.mono (by omega)))
          have hyp5 : Bytes w5 w.heap.size A' p := hyp.below ((B4.mono (by omega)).trans (B5.mono (by omega)))
          have hc5 := T5.cell (T4.cell hcell)
          have HF : Hid ((ks ++ [p]).length = m + 1) := (by have := HKs.out; simp [this] : (ks ++ [p]).length = m + 1)
          have HG : Hid ((K ++ [m1]).map Msg.l = ks ++ [p]) := (by rw [List.map_append, HK.out]; simp [hm1] : (K ++ [m1]).map Msg.l = ks ++ [p])
          have HH : Hid ((O ++ [m2]).length = m + 1) := (by have := HO.out; simp [this] : (O ++ [m2]).length = m + 1)
          have HI : Hid (∀ u ∈ ks ++ [p], u.length ≤ 200) := fun u hu => by
            rcases List.mem_append.1 hu with hu | hu
            · exact HB.out u hu
            · rw [List.mem_singleton] at hu
              subst hu
              exact dp
          clear N5 ho4 ho5 ho4' ho5' hcell hm1 hm2 N4' N3 OK OO hv hyp hKm hp
          have hba : Below w5.heap.size w5 (w5.alloc (.cells #[.slice A' p.length c'] 24)) := (Below.refl w5.heap.size w5).alloc (Nat.le_refl _) _
          go_wp2_with (at_builtin; refine wpList_append_from _ rfl (.tmp 59) (.tmp 64) 23 rfl w2.heap.size 24 j0 _ 24 Try.underlying23 hj0 hy0 hy1 hy2 rfl _ m xs rfl (hown5.alloc _) (w5.heap.size + 1) (some ⟨w5.heap.size, 0, none⟩) 1 1 [.slice A' p.length c'] rfl rfl (Lies.one w5 24 _) (by simp [Value.oneCell']) (by unfold maxLen; omega) (by omega) (by simp; omega) ?_; intro A4 c4 w6 hown6 hg6 hat6)
          have N6 := (N5'.below hba).grown hg6 (hown5.alloc _) (owned_each (OK5.below hba) (OO5.below hba))
          have OK6 := (OK5.below hba).grown hg6 (hown5.alloc _)
          have OO6 := (OO5.below hba).grown hg6 (hown5.alloc _)
          have hs05 := hb05.size
          have hb56 : Below w.heap.size w5 w6 := ((Below.refl w.heap.size w5).alloc hs05 _).trans (below_append (hown5.alloc _) hg6 hs02 (by simp; omega))
          have hb06 := hb05.trans hb56
          have hs6 := hg6.size
          simp only [World.size_alloc] at hs6
          have hv6 := (hv5.below hb56).append (Vals.one (c := c') (hyp5.below hb56))
          go_roundw
          case rel => exact ⟨k + 1, m + 1, ks ++ [p], _, A4, c4, K ++ [m1], O ++ [m2], rfl, by go_num, by omega, by omega, HF, HG, HH, HI, hown6, hv6, N6, OK6, OO6, hb06, by omega⟩
          case measure => simp [intOf]; omega
        · obtain rfl : m = 8 := by omega
          have s1 := send_full_wide wr _ qn B L _ N3 x hx A' c' w.heap.size p hyp (by omega) (by omega) (by simp only [if_true]; omega)
          rw [HX.out.1, HX.out.2] at s1
          have S1 := Lib.hid s1
          clear s1
          go_wp2_with fail
          refine S1.out.mono ?_
          clear S1
          rintro e w4 ⟨rfl, N4, B4⟩
          have hs4 := B4.size
          have hb04 := hb03.trans (B4.mono (by omega))
          have s2 := send_full_wide w4 _ qn B L _ N4 y hy A2 c2 w.heap.size o (ho.below hb04) (by omega) hol (by simp only [if_neg hne.out, if_true]; have := HO.out; omega)
          rw [HY.out.1, HY.out.2] at s2
          have S2 := Lib.hid s2
          clear s2
          go_wp2_with fail
          refine S2.out.mono ?_
          clear S2
          rintro e w5 ⟨rfl, N5, B5⟩
          have hs5 := B5.size
          have hb05 := hb04.trans (B5.mono (by omega))
          have hown5 := own_below (own_below hown B4) B5
          have hv5 : Vals w5 w.heap.size xs ks := hv.below ((B4.mono (by omega)).trans (B5.mono (by omega)))
          have OK5 := (OK.below B4).below B5
          have OO5 := (OO.below B4).below B5
          go_wp2_with fail
          go_roundw
          case rel => exact ⟨k + 1, 8, ks, xs, A3, c3, K, O, rfl, by go_num, by omega, by omega, HKs, HK, HO, HB, hown5, hv5, N5, OK5, OO5, hb05, by omega⟩
          case measure => simp [intOf]; omega
    · have hKm : K.length = m := by have := congrArg List.length HK.out; rw [List.length_map, HKs.out] at this; exact this
      have HKm := Lib.hid hKm
      have s1 := long_in wr _ qn B L _ N3 x hx
      rw [HX.out.1, HX.out.2] at s1
      simp only [if_true, hKm] at s1
      have S1 := Lib.hid s1
      have N3' : NetAt wr (w1.heap.size + 1) qn B L (fun q => if q = x.c then K.drop 0 else if q = y.c then O else []) := N3
      have hex : n ≤ k ∨ (k < n ∧ 20 ≤ k) := by omega
      clear s1 hKm hin OK OO N3
      obtain hge | ⟨hlt, h20⟩ := hex
      · have hge' : (n : Int) ≤ (k : Int) := by omega
        go_wp2_with fail
        refine S1.out.mono ?_
        clear S1
        rintro e w5 ⟨rfl, rfl⟩
        go_wp2_with fail
        go_loopw [11] (fun i_ wr => ∃ j : Nat, i_ = .int .i64 j ∧ j ≤ m ∧ wr.ownsRow w2.heap.size 24 1 (.slice A3 m c3) m xs ∧ Vals wr w.heap.size xs ks ∧ NetAt wr (w1.heap.size + 1) qn B L (fun q => if q = x.c then K.drop j else if q = y.c then O else []) ∧ Below w.heap.size w wr ∧ w2.heap.size ≤ wr.heap.size) (fun i _ => m - (intOf i).toNat)
        case atStart => exact ⟨0, rfl, by omega, hown, hv, N3', hb03, hs23⟩
        case round =>
          obtain ⟨j, rfl, hj, hown6, hv6, N6, hb06, hs26⟩ := hrel
          have hs06 := hb06.size
          by_cases hjm : j < m
          · have hjm' : (j : Int) < (m : Int) := by omega
            have hjk : j < ks.length := by have := HKs.out; omega
            have hjK : j < K.length := by have := HKm.out; omega
            have hjx : j < xs.length := by rw [hv6.1]; exact hjk
            have hd : K.drop j = K[j] :: K.drop (j + 1) := List.drop_eq_getElem_cons hjK
            have hul : K[j].l = ks[j] := by
              have e1 : (K.map Msg.l)[j]? = ks[j]? := by rw [HK.out]
              rw [List.getElem?_map, List.getElem?_eq_getElem hjK, List.getElem?_eq_getElem hjk] at e1
              injection e1
            obtain ⟨A', c', exj, hyj⟩ := hv6.2 j xs[j] ks[j] (List.getElem?_eq_getElem hjx) (List.getElem?_eq_getElem hjk)
            obtain ⟨g, rfl, _, _, _, hcellj, _⟩ := own_addr hown6 (by omega)
            have hcj := hcellj j _ (List.getElem?_eq_getElem hjx)
            rw [exj] at hcj
            have s2 := take_first wr _ qn B L _ N6 x hx K[j] (K.drop (j + 1)) (by simp only [if_true]; exact hd)
            rw [HX.out.1, HX.out.2] at s2
            have hyu := (N6.q x hx).2 K[j] (by simp only [if_true]; rw [hd]; exact List.mem_cons_self)
            clear exj hcellj hd
            generalize ks[j] = p at *
            generalize K[j] = u at *
            obtain ⟨uA, uc, ul⟩ := u
            simp only at hul hyu
            subst hul
            have S2 := Lib.hid s2
            clear s2 hjk hjK hjx
            go_wp2_with fail
            refine S2.out.mono ?_
            clear S2
            rintro e w7 ⟨rfl, N7, T7, B7⟩
            have hs7 := T7.size
            have hb07 := hb06.trans (B7.mono (by omega))
            have hc7 := T7.cell hcj
            have t1 := fun i => run_text (P := Try.prog) (w7.drewN i) 24 9 5 (B := w7.heap.size) (show Bytes (w7.drewN i) w7.heap.size uA ul from hyu.turn (T7.draws i) T7.size) Try.underlying24 Try.underlying5 Try.underlying9 ul.length uc rfl
            have t2 := fun i => run_text (P := Try.prog) (w7.drewN i) 24 9 5 (B := w7.heap.size) (show Bytes (w7.drewN i) w7.heap.size A' ul from hyj.turn (T7.draws i) (by omega)) Try.underlying24 Try.underlying5 Try.underlying9 ul.length c' rfl
            have N7' : NetAt w7 (w1.heap.size + 1) qn B L (fun q => if q = x.c then K.drop (j + 1) else if q = y.c then O else []) := N7.congr (fun z _ => by
              by_cases e : z.c = x.c
              · simp [e]
              · simp [e])
            have hown7 := own_turned hown6 T7
            have hv7 : Vals w7 w.heap.size xs ks := hv6.below (B7.mono (by omega))
            have ebb : (ul == ul) = true := beq_self_eq_true _
            clear hcj hyu hyj N7
            unfold Msg.val
            go_wp2
            go_quiet (fail)
            go_wp2
            go_roundw
            case rel => exact ⟨j + 1, by go_num, by omega, hown7, hv7, N7'.draws _, below_draws hb07, by show w2.heap.size ≤ w7.heap.size; omega⟩
            case measure => simp [intOf]; omega
          · obtain rfl : j = m := by omega
            have hd : K.drop j = [] := List.drop_eq_nil_of_le (by have := HKm.out; omega)
            have s2 := take_empty wr _ qn B L _ N6 x hx (by simp only [if_true]; exact hd)
            rw [HX.out.1, HX.out.2] at s2
            have s3 := long_in wr _ qn B L _ N6 y hy
            rw [HY.out.1, HY.out.2] at s3
            simp only [if_neg hne.out, if_true, HO.out] at s3
            have S2 := Lib.hid s2
            have S3 := Lib.hid s3
            clear s2 s3 hd
            go_wp2_with fail
            refine S2.out.mono ?_
            clear S2
            rintro e w7 ⟨rfl, rfl⟩
            by_cases hm0 : j = 0
            · have e0 : ((j : Int) == 0) = true := by rw [beq_iff_eq]; omega
              have hl0 : ¬ (0 : Int) < (j : Int) := by omega
              clear hm0
              go_wp2_with fail
              refine S3.out.mono ?_
              clear S3
              rintro e w8 ⟨rfl, rfl⟩
              go_wp2_with fail
              go_ret
              exact ⟨rfl, hb06⟩
            · have hl0 : (0 : Int) < (j : Int) := by omega
              clear hm0
              go_wp2_with fail
              refine S3.out.mono ?_
              clear S3
              rintro e w8 ⟨rfl, rfl⟩
              go_wp2_with fail
              go_ret
              exact ⟨rfl, hb06⟩
      · have hlt' : (k : Int) < (n : Int) := by omega
        have h20' : (20 : Int) ≤ (k : Int) := by omega
        go_wp2_with fail
        refine S1.out.mono ?_
        clear S1
        rintro e w5 ⟨rfl, rfl⟩
        go_wp2_with fail
        go_loopw [11] (fun i_ wr => ∃ j : Nat, i_ = .int .i64 j ∧ j ≤ m ∧ wr.ownsRow w2.heap.size 24 1 (.slice A3 m c3) m xs ∧ Vals wr w.heap.size xs ks ∧ NetAt wr (w1.heap.size + 1) qn B L (fun q => if q = x.c then K.drop j else if q = y.c then O else []) ∧ Below w.heap.size w wr ∧ w2.heap.size ≤ wr.heap.size) (fun i _ => m - (intOf i).toNat)
        case atStart => exact ⟨0, rfl, by omega, hown, hv, N3', hb03, hs23⟩
        case round =>
          obtain ⟨j, rfl, hj, hown6, hv6, N6, hb06, hs26⟩ := hrel
          have hs06 := hb06.size
          by_cases hjm : j < m
          · have hjm' : (j : Int) < (m : Int) := by omega
            have hjk : j < ks.length := by have := HKs.out; omega
            have hjK : j < K.length := by have := HKm.out; omega
            have hjx : j < xs.length := by rw [hv6.1]; exact hjk
            have hd : K.drop j = K[j] :: K.drop (j + 1) := List.drop_eq_getElem_cons hjK
            have hul : K[j].l = ks[j] := by
              have e1 : (K.map Msg.l)[j]? = ks[j]? := by rw [HK.out]
              rw [List.getElem?_map, List.getElem?_eq_getElem hjK, List.getElem?_eq_getElem hjk] at e1
              injection e1
            obtain ⟨A', c', exj, hyj⟩ := hv6.2 j xs[j] ks[j] (List.getElem?_eq_getElem hjx) (List.getElem?_eq_getElem hjk)
            obtain ⟨g, rfl, _, _, _, hcellj, _⟩ := own_addr hown6 (by omega)
            have hcj := hcellj j _ (List.getElem?_eq_getElem hjx)
            rw [exj] at hcj
            have s2 := take_first wr _ qn B L _ N6 x hx K[j] (K.drop (j + 1)) (by simp only [if_true]; exact hd)
            rw [HX.out.1, HX.out.2] at s2
            have hyu := (N6.q x hx).2 K[j] (by simp only [if_true]; rw [hd]; exact List.mem_cons_self)
            clear exj hcellj hd
            generalize ks[j] = p at *
            generalize K[j] = u at *
            obtain ⟨uA, uc, ul⟩ := u
            simp only at hul hyu
            subst hul
            have S2 := Lib.hid s2
            clear s2 hjk hjK hjx
            go_wp2_with fail
            refine S2.out.mono ?_
            clear S2
            rintro e w7 ⟨rfl, N7, T7, B7⟩
            have hs7 := T7.size
            have hb07 := hb06.trans (B7.mono (by omega))
            have hc7 := T7.cell hcj
            have t1 := fun i => run_text (P := Try.prog) (w7.drewN i) 24 9 5 (B := w7.heap.size) (show Bytes (w7.drewN i) w7.heap.size uA ul from hyu.turn (T7.draws i) T7.size) Try.underlying24 Try.underlying5 Try.underlying9 ul.length uc rfl
            have t2 := fun i => run_text (P := Try.prog) (w7.drewN i) 24 9 5 (B := w7.heap.size) (show Bytes (w7.drewN i) w7.heap.size A' ul from hyj.turn (T7.draws i) (by omega)) Try.underlying24 Try.underlying5 Try.underlying9 ul.length c' rfl
            have N7' : NetAt w7 (w1.heap.size + 1) qn B L (fun q => if q = x.c then K.drop (j + 1) else if q = y.c then O else []) := N7.congr (fun z _ => by
              by_cases e : z.c = x.c
              · simp [e]
              · simp [e])
            have hown7 := own_turned hown6 T7
            have hv7 : Vals w7 w.heap.size xs ks := hv6.below (B7.mono (by omega))
            have ebb : (ul == ul) = true := beq_self_eq_true _
            clear hcj hyu hyj N7
            unfold Msg.val
            go_wp2
            go_quiet (fail)
            go_wp2
            go_roundw
            case rel => exact ⟨j + 1, by go_num, by omega, hown7, hv7, N7'.draws _, below_draws hb07, by show w2.heap.size ≤ w7.heap.size; omega⟩
            case measure => simp [intOf]; omega
          · obtain rfl : j = m := by omega
            have hd : K.drop j = [] := List.drop_eq_nil_of_le (by have := HKm.out; omega)
            have s2 := take_empty wr _ qn B L _ N6 x hx (by simp only [if_true]; exact hd)
            rw [HX.out.1, HX.out.2] at s2
            have s3 := long_in wr _ qn B L _ N6 y hy
            rw [HY.out.1, HY.out.2] at s3
            simp only [if_neg hne.out, if_true, HO.out] at s3
            have S2 := Lib.hid s2
            have S3 := Lib.hid s3
            clear s2 s3 hd
            go_wp2_with fail
            refine S2.out.mono ?_
            clear S2
            rintro e w7 ⟨rfl, rfl⟩
            by_cases hm0 : j = 0
            · have e0 : ((j : Int) == 0) = true := by rw [beq_iff_eq]; omega
              have hl0 : ¬ (0 : Int) < (j : Int) := by omega
              clear hm0
              go_wp2_with fail
              refine S3.out.mono ?_
              clear S3
              rintro e w8 ⟨rfl, rfl⟩
              go_wp2_with fail
              go_ret
              exact ⟨rfl, hb06⟩
            · have hl0 : (0 : Int) < (j : Int) := by omega
              clear hm0
              go_wp2_with fail
              refine S3.out.mono ?_
              clear S3
              rintro e w8 ⟨rfl, rfl⟩
              go_wp2_with fail
              go_ret
              exact ⟨rfl, hb06⟩
theorem walk (A : Option Addr) (c : Nat) (ls : List (List UInt8)) (A2 : Option Addr) (c2 : Nat) (o : List UInt8) (w : World) (_ : ls.length ≤ c) (_ : c ≤ 9223372036854775807) (h : Texts w w.heap.size A ls) (_ : ∀ x ∈ ls, x.length ≤ 9223372036854775807) (_ : o.length ≤ c2) (_ : c2 ≤ 9223372036854775807) (ho : Bytes w w.heap.size A2 o) (hol : o.length ≤ 140737488355328) :
    Calls Try.prog 4 #[.slice A ls.length c, .slice A2 o.length c2] w fun e w' => e = .returned (.bool true) ∧ Below w.heap.size w w' :=
  walk_in A A2 c c2 ls.length ls o w h rfl (by omega) ho hol
theorem own : ownKnob Try.prog.godebug = none := by kernel_rfl
theorem laidOut : laidOutB Try.prog = true := by kernel_rfl
set_option maxRecDepth 100000 in
theorem lifted (os : Os) (started : os.Started) (H : Type) (enc : TypeId × Value → H) :
    ReturnsInHanded {} Try.checked os 4 .any (Rows.netOrderSpec.pre6 enc Try.prog Try.f4 Rows.netOrderRow.domain false) (Rows.netOrderSpec.post enc Try.prog Try.f4 false true false false) := by
  refine returnsInHanded_of_change_sized (C := Try.checked) own started (by kernel_rfl) Try.func4
    (ChangeSpec.witness6 (enc := enc) (C := Try.checked) false ⟨#[], #[.slice none 0 0, .slice none 0 0], []⟩ 8 (by kernel_rfl) (by kernel_rfl) (by kernel_rfl) (by kernel_rfl)) ?_
  intro W base args ds gs before hval0 hW _ hsz0 _
  have hval : ∀ (j : Nat) t v, Try.f4.params[j]? = some t → args[j]? = some v → Value.okWide Try.prog W .any base t v := hval0
  have hW' := hW
  obtain ⟨p, q, hA0, hV, rfl, _, _⟩ := hW
  have hA : DataW.TrodAll enc Try.prog W 0 (fun _ => true) true Try.f4.params.toList args.toList ds p := hA0
  rw [Try.params4] at hA hval
  obtain ⟨v0, vs0, d0, ds0, p0, q0, hargs, rfl, rfl, h0, r0⟩ := trodAll_cons hA
  obtain ⟨v1, vs1, d1, ds1, p1, q1, rfl, rfl, rfl, h1, r1⟩ := trodAll_cons r0
  obtain ⟨rfl, rfl, rfl⟩ := trodAll_nil r1
  obtain rfl : args = #[v0, v1] := by cases args; simp_all
  obtain ⟨rfl, rfl⟩ := trodVars_none hV
  obtain ⟨a0, len0, cap0, rfl⟩ := okWide_slice Try.underlying23 (hval 0 23 v0 rfl rfl)
  have k0 := h0
  have lt0 : ∀ x ∈ p0, x.block < W.heap.size := by obtain ⟨m, hm⟩ := k0; exact DataW.trod_lt m _ _ _ hm
  obtain ⟨l0, hl0, hc0, hm0, hb0, hx0⟩ := open_texts Try.underlying23 Try.underlying24 Try.underlying5 (by kernel_rfl) (by kernel_rfl) h0
  subst hl0
  obtain ⟨a1, len1, cap1, rfl⟩ := okWide_slice Try.underlying24 (hval 1 24 v1 rfl rfl)
  have k1 := h1
  have lt1 : ∀ x ∈ p1, x.block < W.heap.size := by obtain ⟨m, hm⟩ := k1; exact DataW.trod_lt m _ _ _ hm
  obtain ⟨l1, hl1, hc1, hm1, hb1⟩ := open_bytes Try.underlying24 Try.underlying5 (by kernel_rfl) h1
  subst hl1
  have hol : l1.length ≤ 140737488355328 := by
    rcases len_of k1 with h | ⟨es, sp, hd, hl⟩
    · omega
    · subst hd
      have hsz : (DataW.weightsEach Try.prog [23, 24] [d0, .slice es sp]).all (· ≤ reachBytes) = true := hsz0
      have := sized_slice hsz (j := 1) (t := 24) (e := 5) rfl rfl Try.underlying24
      rw [bytes5] at this
      simp only [reachBytes] at this
      omega
  clear hA0 hval0 hsz0
  refine (walk a0 cap0 l0 a1 cap1 l1 W hc0 hm0 hb0 hx0 hc1 hm1 hb1 hol).mono fun e W' ⟨he, bel⟩ => ?_
  subst he
  exact ⟨_, rfl, _, _, _, [], _, [], hW', trodAll_mk1 (shut_bool Try.underlying4 _), (trodAll_cons_mk (Below.trod laidOut (by kernel_rfl) (of_decide_eq_true (by kernel_rfl)) k0 bel lt0) (trodAll_cons_mk (Below.trod laidOut (by kernel_rfl) (of_decide_eq_true (by kernel_rfl)) k1 bel lt1) trodAll_mk0)), rfl, bel.frame _, fun h => by cases h⟩
theorem over : Rows.netOrderRow.holds Try.pinned (OpenSpec.ofChange Rows.netOrderSpec) :=
  OpenClaim.holds_of_wide 4 Try.f4 rfl rfl rfl rfl rfl rfl rfl ⟨rfl, rfl, rfl, rfl, rfl⟩ rfl rfl rfl rfl rfl (by kernel_rfl) Try.func4 (by kernel_rfl)
    (of_decide_eq_true (by kernel_rfl)) (by unfold Func.isWrapper; first | (rw [if_pos (by decide +kernel)]; kernel_rfl) | (rw [if_neg (by decide +kernel)]; exact ⟨rfl, rfl⟩))
    (fun os started H enc _ => lifted os started H enc)
theorem proved : Rows.NetOrderSaid := over
end Go.Proofs.Ytbniaojldjhemaa.netOrder
