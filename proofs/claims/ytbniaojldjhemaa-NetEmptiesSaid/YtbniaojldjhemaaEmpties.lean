/- NetEmpties: for every []int, int and []byte the law returns true, and the arguments read behind the call as before. No conditions. -/
import Derived.Test.YtbniaojldjhemaaEmpty
namespace Go.Proofs.Ytbniaojldjhemaa.netEmpties
open Go.Conc Go.ChangeShapes Go.WideShapes Go.ChangeAt Go.RowKit

theorem uniq {L : List Link} (hF : Fair L) {x y : Link} (hx : x ∈ L) (hy : y ∈ L) (h1 : x.f = y.f) (h2 : x.t = y.t) : x = y := by
  have hpw := hF.nodup
  rw [List.pairwise_iff_getElem] at hpw
  obtain ⟨i, hi, hyi⟩ := List.getElem_of_mem hx
  obtain ⟨i', hi', hxi⟩ := List.getElem_of_mem hy
  rcases Nat.lt_trichotomy i i' with h | h | h
  · exact absurd (by rw [hyi, hxi]; exact ⟨h1, h2⟩) (hpw i i' hi hi' h)
  · subst h
    rw [← hyi, ← hxi]
  · exact absurd (by rw [hyi, hxi]; exact ⟨h1.symm, h2.symm⟩) (hpw i' i hi' hi h)
/-- The links of the brokers below k have one message, the others none. -/
def Lens (L : List Link) (k : Nat) (Q : Nat → List Msg) : Prop := ∀ x ∈ L, (Q x.c).length = if x.f < (k : Int) ∧ x.t < (k : Int) then 1 else 0
theorem Lens.start {p : Nat → Nat} {n : Nat} {L : List Link} (hg : Good p n) (h : LinksOf p n L) {Q : Nat → List Msg} (hQ : ∀ x ∈ L, Q x.c = []) : Lens L 1 Q := fun x hx => by
  rw [hQ x hx, if_neg]
  · rfl
  · obtain ⟨j, j1, j2, h3⟩ := h.only x hx
    have := hg j j1 j2
    omega
theorem Lens.zero {p : Nat → Nat} {k : Nat} {L : List Link} {Q : Nat → List Msg} (h : Lens L k Q) {x : Link} (hx : x ∈ L) (hf : (x.f = k ∧ x.t = p k) ∨ (x.f = p k ∧ x.t = k)) : Q x.c = [] := by
  have := h x hx
  rw [if_neg (by omega)] at this
  exact List.eq_nil_of_length_eq_zero this
theorem Lens.step {p : Nat → Nat} {n k : Nat} {L : List Link} (hF : Fair L) (hA : ∀ x ∈ L, ∀ y ∈ L, x.c = y.c → x = y) (hg : Good p n) (h : LinksOf p n L) {Q Q' : Nat → List Msg} (hL : Lens L k Q) (hk : 1 ≤ k) (hkn : k < n) {x y : Link} (hx : x ∈ L) (hy : y ∈ L)
    (hxf : x.f = k) (hxt : x.t = p k) (hyf : y.f = p k) (hyt : y.t = k) (h1 : (Q' x.c).length = 1) (h2 : (Q' y.c).length = 1) (ho : ∀ c, c ≠ x.c → c ≠ y.c → Q' c = Q c) : Lens L (k + 1) Q' := fun z hz => by
  have hpk := hg k hk hkn
  by_cases e1 : z.c = x.c
  · have := hA z hz x hx e1
    subst this
    rw [h1, if_pos (by omega)]
  · by_cases e2 : z.c = y.c
    · have := hA z hz y hy e2
      subst this
      rw [h2, if_pos (by omega)]
    · rw [ho _ e1 e2, hL z hz]
      obtain ⟨j, j1, j2, h3⟩ := h.only z hz
      have hj := hg j j1 j2
      have hne : j ≠ k := fun e => by
        subst e
        rcases h3 with ⟨h3, h4⟩ | ⟨h3, h4⟩
        · exact e1 (by rw [uniq hF hz hx (by omega) (by omega)])
        · exact e2 (by rw [uniq hF hz hy (by omega) (by omega)])
      have hiff : (z.f < (k : Int) ∧ z.t < (k : Int)) ↔ (z.f < ((k + 1 : Nat) : Int) ∧ z.t < ((k + 1 : Nat) : Int)) := by omega
      simp only [hiff]
theorem Lens.all {p : Nat → Nat} {n : Nat} {L : List Link} (hg : Good p n) (h : LinksOf p n L) {Q : Nat → List Msg} (hL : Lens L n Q) : ∀ x ∈ L, (Q x.c).length = 1 := fun x hx => by
  rw [hL x hx, if_pos]
  obtain ⟨j, j1, j2, h3⟩ := h.only x hx
  have := hg j j1 j2
  omega
theorem emptied_len {br : Int} {x : Link} {q : List Msg} (h : q.length = 1) : (emptied br x q).length = if x.f = br ∨ x.t = br then 0 else 1 := by
  unfold emptied
  split <;> simp [h]

set_option maxRecDepth 100000 in
theorem walk_no (A : Option Addr) (cap n : Nat) (f : Nat → Int) (br : Int) (A1 : Option Addr) (c1 m : Nat) (w : World) (hm : n ≤ 9223372036854775807) (h : Arr w w.heap.size A n f) (ht : 10 < n ∨ 200 < m ∨ ¬ IsTree n f) :
    Calls Try.prog 5 #[.slice A n cap, .int .i64 br, .slice A1 m c1] w fun e w' => e = .returned (.bool true) ∧ Below w.heap.size w w' := by
  rcases (show 10 < n ∨ (n ≤ 10 ∧ 200 < m) ∨ (n ≤ 10 ∧ m ≤ 200 ∧ ¬ IsTree n f) by by_cases h1 : 10 < n; exact .inl h1; by_cases h2 : 200 < m; exact .inr (.inl ⟨by omega, h2⟩); exact .inr (.inr ⟨by omega, by omega, (ht.resolve_left h1).resolve_left h2⟩)) with h1 | ⟨h1, h3⟩ | ⟨h1, h3, h2⟩
  all_goals
    clear ht
    go_enter Try.func5, Try.ntmps5
    go_wp2_with fail
    refine (awake_any _).mono ?_
    rintro e w1 ⟨rfl, hb1⟩
    go_wp2_with (go_at_call 12; refine (new_bad A cap n _ f w1 (h.below hb1) hm h2).mono ?_; rintro e w2 ⟨rfl, rfl⟩)
    go_ret
    exact ⟨rfl, hb1⟩

set_option maxRecDepth 100000 in
set_option maxHeartbeats 4000000 in
theorem walk_yes (A : Option Addr) (cap n : Nat) (p : Nat → Nat) (br : Int) (A1 : Option Addr) (c1 m : Nat) (b : List UInt8) (w : World) (ht : TreeAt w w.heap.size A n p) (hn10 : n ≤ 10) (hl : b.length = m) (hm : m ≤ 200) (hy : Bytes w w.heap.size A1 b) :
    Calls Try.prog 5 #[.slice A n cap, .int .i64 br, .slice A1 m c1] w fun e w' => e = .returned (.bool true) ∧ Below w.heap.size w w' := by
  have hn1 := ht.1
  have g1 : decide ((10 : Int) < (n : Int)) = false := by simp; omega
  have g2 : decide ((200 : Int) < (m : Int)) = false := by simp; omega
  have HT := Lib.hid ht
  have HLM := Lib.hid hl
  clear hl
  obtain ⟨_, _, hg, bk, off, rfl, hbk, h0, hc⟩ := ht
  have HC := Lib.hid hc
  have HG := Lib.hid hg
  clear h0 hc hg
  go_enter Try.func5, Try.ntmps5
  go_wp2_with fail
  refine (awake_any _).mono ?_
  rintro e w1 ⟨rfl, hb1⟩
  go_wp2_with fail
  refine (new_ok _ cap n p w1 ((HT.out.below hb1).more hb1.size)).mono ?_
  rintro e w2 ⟨qn, B, L, rfl, N2, HL0, hb2⟩
  have HL := Lib.hid HL0
  have hb02 := hb1.trans (hb2.mono hb1.size)
  have hs01 := hb1.size
  have hs02 := hb02.size
  have hs12 := hb2.size
  have L2 : Hid (Lens L 1 (fun _ => [])) := Lens.start HG.out HL0 (fun _ _ => rfl)
  have hF := Lib.hid N2.fair
  have hAp := Lib.hid N2.apart
  clear HL0
  go_wp2_with fail
  go_loopw [10] (fun i_ wr => ∃ (k : Nat) (Q : Nat → List Msg), i_ = .int .i64 k ∧ 1 ≤ k ∧ k ≤ n ∧ NetAt wr w1.heap.size qn B L Q ∧ Hid (Lens L k Q) ∧ Below w.heap.size w wr ∧ w2.heap.size ≤ wr.heap.size) (fun i _ => n - (intOf i).toNat)
  case atStart => exact ⟨1, _, rfl, by omega, by omega, N2, L2, hb02, Nat.le_refl _⟩
  case round =>
    obtain ⟨k, Q, rfl, hk1, hkn, N3, L3, hb03, hs23⟩ := hrel
    have hs03 := hb03.size
    by_cases hlt : k < n
    · have hlt' : (k : Int) < (n : Int) := by omega
      obtain ⟨⟨x, hx, hxf, hxt⟩, ⟨y, hy', hyf, hyt⟩⟩ := HL.out.all k hk1 hlt
      have ck := (hb03.cell (p := ⟨bk, off + k, none⟩) hbk).trans (HC.out k hk1 hlt)
      have qx : Q x.c = [] := L3.out.zero hx (.inl ⟨hxf, hxt⟩)
      have qy : Q y.c = [] := L3.out.zero hy' (.inr ⟨hyf, hyt⟩)
      have hpk := HG.out k hk1 hlt
      have hne : y.c ≠ x.c := fun e => by
        have := hAp.out y hy' x hx e
        rw [this] at hyf
        omega
      have s1 := send_room wr _ qn B L Q N3 x hx A1 c1 w.heap.size b (hy.below hb03) (by omega) (by omega) (by have := HLM.out; omega) (by rw [qx]; decide)
      rw [hxf, hxt, HLM.out] at s1
      have S1 := Lib.hid s1
      have HNE := Lib.hid hne
      have HXY : Hid (x.f = k ∧ x.t = p k ∧ y.f = p k ∧ y.t = k) := ⟨hxf, hxt, hyf, hyt⟩
      have QX := Lib.hid qx
      have QY := Lib.hid qy
      clear s1 hxf hxt hyf hyt hpk hne qx qy
      generalize hpv : p k = pk at *
      have HPV := Lib.hid hpv
      clear hpv
      go_wp2_with fail
      refine S1.out.mono ?_
      clear S1
      rintro e w4 ⟨rfl, m1, hm1, ho4, N4, T4, B4⟩
      have hs4 := T4.size
      have hb04 := hb03.trans (B4.mono (by omega))
      have ck4 := (B4.cell (p := ⟨bk, off + k, none⟩) (by show bk < _; omega)).trans ck
      have s2 := send_room w4 _ qn B L _ N4 y hy' A1 c1 w.heap.size b (hy.below hb04) (by omega) (by omega) (by have := HLM.out; omega) (by rw [if_neg HNE.out, QY.out]; decide)
      rw [HXY.out.2.2.1, HXY.out.2.2.2, HLM.out] at s2
      have S2 := Lib.hid s2
      clear s2 ho4 hm1 N4
      go_wp2_with fail
      refine S2.out.mono ?_
      clear S2
      rintro e w5 ⟨rfl, m2, hm2, ho5, N5, T5, B5⟩
      have hs5 := T5.size
      have hb05 := hb04.trans (B5.mono (by omega))
      have L5 : Hid (Lens L (k + 1) (fun j => if j = y.c then (if y.c = x.c then Q x.c ++ [m1] else Q y.c) ++ [m2] else if j = x.c then Q x.c ++ [m1] else Q j)) := by
        obtain ⟨q1, q2, q3, q4⟩ := HXY.out
        refine Lens.step hF.out hAp.out HG.out HL.out L3.out hk1 hlt hx hy' q1 (by rw [q2, HPV.out]) (by rw [q3, HPV.out]) q4 ?_ ?_ ?_
        · rw [if_neg (Ne.symm HNE.out), if_pos rfl, QX.out]
          rfl
        · rw [if_pos rfl, if_neg HNE.out, QY.out]
          rfl
        · intro c e1 e2
          rw [if_neg e2, if_neg e1]
      clear ho5 hm2
      go_wp2_with fail
      go_roundw
      case rel => exact ⟨k + 1, _, by go_num, by omega, by omega, N5, L5, hb05, by omega⟩
      case measure => simp [intOf]; omega
    · obtain rfl : k = n := by omega
      have L3' : Hid (∀ x ∈ L, (Q x.c).length = 1) := L3.out.all HG.out HL.out
      clear L3 hlt
      go_wp2_with fail
      refine (empty_any wr _ qn B L Q N3 br (by omega) (fun x hx => by rw [L3'.out x hx]; omega)).mono ?_
      rintro e w4 ⟨rfl, R, N4, HR0, T4, B4⟩
      have HR : Hid (∀ x ∈ L, (R x.c).length = if x.f = br ∨ x.t = br then 0 else 1) := fun x hx => by
        rw [HR0 x hx]
        exact emptied_len (L3'.out x hx)
      clear HR0
      have hb04 := hb03.trans (B4.mono (by omega))
      go_wp2_with fail
      go_loopw [11] (fun i_ wr => ∃ i : Nat, i_ = .int .i64 i ∧ 1 ≤ i ∧ i ≤ k ∧ NetAt wr w1.heap.size qn B L R ∧ Below w.heap.size w wr) (fun i _ => k - (intOf i).toNat)
      case atStart => exact ⟨1, rfl, by omega, by omega, N4, hb04⟩
      case round =>
        obtain ⟨i, rfl, hi1, hik, N5, hb05⟩ := hrel
        by_cases hlt : i < k
        · have hlt' : (i : Int) < (k : Int) := by omega
          obtain ⟨⟨x, hx, hxf, hxt⟩, ⟨y, hy', hyf, hyt⟩⟩ := HL.out.all i hi1 hlt
          have ci := (hb05.cell (p := ⟨bk, off + i, none⟩) hbk).trans (HC.out i hi1 hlt)
          obtain ⟨want, hwant⟩ : ∃ want : Nat, want = if (i : Int) = br ∨ (p i : Int) = br then 0 else 1 := ⟨_, rfl⟩
          have l1 := long_in wr _ qn B L _ N5 x hx
          have l2 := long_in wr _ qn B L _ N5 y hy'
          have e1 := HR.out x hx
          have e2 := HR.out y hy'
          rw [hxf, hxt, ← hwant] at e1
          have e2 : (R y.c).length = want := by
            rw [e2, hyf, hyt, hwant]
            simp only [Or.comm]
          rw [hxf, hxt, e1] at l1
          rw [hyf, hyt, e2] at l2
          have HL1 := Lib.hid l1
          have HL2 := Lib.hid l2
          clear l1 l2 e1 e2 hxf hxt hyf hyt
          generalize p i = pk at *
          by_cases w1' : (i : Int) = br
          · have W1 : ((i : Int) == br) = true := by simpa using w1'
            rw [if_pos (.inl w1')] at hwant
            subst hwant
            clear w1'
            go_wp2_with fail
            refine HL1.out.mono ?_
            rintro e w6 ⟨rfl, rfl⟩
            go_wp2_with fail
            refine HL2.out.mono ?_
            rintro e w6 ⟨rfl, rfl⟩
            go_wp2_with fail
            go_roundw
            case rel => exact ⟨i + 1, by go_num, by omega, by omega, N5, hb05⟩
            case measure => simp [intOf]; omega
          · have W1 : ((i : Int) == br) = false := by simpa using w1'
            by_cases w2' : (pk : Int) = br
            · have W2 : ((pk : Int) == br) = true := by simpa using w2'
              rw [if_pos (.inr w2')] at hwant
              subst hwant
              clear w1' w2'
              go_wp2_with fail
              refine HL1.out.mono ?_
              rintro e w6 ⟨rfl, rfl⟩
              go_wp2_with fail
              refine HL2.out.mono ?_
              rintro e w6 ⟨rfl, rfl⟩
              go_wp2_with fail
              go_roundw
              case rel => exact ⟨i + 1, by go_num, by omega, by omega, N5, hb05⟩
              case measure => simp [intOf]; omega
            · have W2 : ((pk : Int) == br) = false := by simpa using w2'
              rw [if_neg (by simp [w1', w2'])] at hwant
              subst hwant
              clear w1' w2'
              go_wp2_with fail
              refine HL1.out.mono ?_
              rintro e w6 ⟨rfl, rfl⟩
              go_wp2_with fail
              refine HL2.out.mono ?_
              rintro e w6 ⟨rfl, rfl⟩
              go_wp2_with fail
              go_roundw
              case rel => exact ⟨i + 1, by go_num, by omega, by omega, N5, hb05⟩
              case measure => simp [intOf]; omega
        · have hge : (k : Int) ≤ (i : Int) := by omega
          go_wp2_with fail
          go_ret
          exact ⟨rfl, hb05⟩

theorem walk (A : Option Addr) (cap n : Nat) (f : Nat → Int) (br : Int) (A1 : Option Addr) (c1 : Nat) (b : List UInt8) (w : World) (_ : n ≤ cap) (hm : cap ≤ 9223372036854775807) (h : Arr w w.heap.size A n f) (_ : (Lit.int .i64 br).wf = true) (_ : b.length ≤ c1) (_ : c1 ≤ 9223372036854775807) (hy : Bytes w w.heap.size A1 b) :
    Calls Try.prog 5 #[.slice A n cap, .int .i64 br, .slice A1 b.length c1] w fun e w' => e = .returned (.bool true) ∧ Below w.heap.size w w' := by
  by_cases h1 : 10 < n
  · exact walk_no A cap n f br A1 c1 _ w (by omega) h (.inl h1)
  by_cases h2 : 200 < b.length
  · exact walk_no A cap n f br A1 c1 _ w (by omega) h (.inr (.inl h2))
  by_cases ht : IsTree n f
  · exact walk_yes A cap n _ br A1 c1 _ b w (h.tree ht) (by omega) rfl (by omega) hy
  · exact walk_no A cap n f br A1 c1 _ w (by omega) h (.inr (.inr ht))
theorem own : ownKnob Try.prog.godebug = none := by kernel_rfl
theorem laidOut : laidOutB Try.prog = true := by kernel_rfl
set_option maxRecDepth 100000 in
theorem lifted (os : Os) (started : os.Started) (H : Type) (enc : TypeId × Value → H) :
    ReturnsInHanded {} Try.checked os 5 .any (Rows.netEmptiesSpec.pre6 enc Try.prog Try.f5 Rows.netEmptiesRow.domain false) (Rows.netEmptiesSpec.post enc Try.prog Try.f5 false true false false) := by
  refine returnsInHanded_of_change (C := Try.checked) own started (by kernel_rfl) Try.func5
    (ChangeSpec.witness6 (enc := enc) (C := Try.checked) false ⟨#[], #[.slice none 0 0, .int .i64 0, .slice none 0 0], []⟩ 8 (by kernel_rfl) (by kernel_rfl) (by kernel_rfl) (by kernel_rfl)) ?_
  intro W base args ds gs before hval0 hW _ _
  have hval : ∀ (j : Nat) t v, Try.f5.params[j]? = some t → args[j]? = some v → Value.okWide Try.prog W .any base t v := hval0
  have hW' := hW
  obtain ⟨p, q, hA0, hV, rfl, _, _⟩ := hW
  have hA : DataW.TrodAll enc Try.prog W 0 (fun _ => true) true Try.f5.params.toList args.toList ds p := hA0
  rw [Try.params5] at hA hval
  obtain ⟨v0, vs0, d0, ds0, p0, q0, hargs, rfl, rfl, h0, r0⟩ := trodAll_cons hA
  obtain ⟨v1, vs1, d1, ds1, p1, q1, rfl, rfl, rfl, h1, r1⟩ := trodAll_cons r0
  obtain ⟨v2, vs2, d2, ds2, p2, q2, rfl, rfl, rfl, h2, r2⟩ := trodAll_cons r1
  obtain ⟨rfl, rfl, rfl⟩ := trodAll_nil r2
  obtain rfl : args = #[v0, v1, v2] := by cases args; simp_all
  obtain ⟨rfl, rfl⟩ := trodVars_none hV
  obtain ⟨a0, len0, cap0, rfl⟩ := okWide_slice Try.underlying29 (hval 0 29 v0 rfl rfl)
  have k0 := h0
  have lt0 : ∀ x ∈ p0, x.block < W.heap.size := by obtain ⟨m, hm⟩ := k0; exact DataW.trod_lt m _ _ _ hm
  obtain ⟨l0, hc0, hm0, hb0⟩ := open_arr Try.underlying29 Try.underlying3 (by kernel_rfl) h0
  obtain ⟨a1, rfl, rfl, rfl, w1⟩ := open_int Try.underlying3 (hval 1 3 v1 rfl rfl) h1
  obtain ⟨a2, len2, cap2, rfl⟩ := okWide_slice Try.underlying24 (hval 2 24 v2 rfl rfl)
  have k2 := h2
  have lt2 : ∀ x ∈ p2, x.block < W.heap.size := by obtain ⟨m, hm⟩ := k2; exact DataW.trod_lt m _ _ _ hm
  obtain ⟨l2, hl2, hc2, hm2, hb2⟩ := open_bytes Try.underlying24 Try.underlying5 (by kernel_rfl) h2
  subst hl2
  clear hA0 hval0
  refine (walk a0 cap0 len0 l0 a1 a2 cap2 l2 W hc0 hm0 hb0 w1 hc2 hm2 hb2).mono fun e W' ⟨he, bel⟩ => ?_
  subst he
  exact ⟨_, rfl, _, _, _, [], _, [], hW', trodAll_mk1 (shut_bool Try.underlying4 _), (trodAll_cons_mk (Below.trod laidOut (by kernel_rfl) (of_decide_eq_true (by kernel_rfl)) k0 bel lt0) (trodAll_cons_mk (shut_int Try.underlying3 w1) (trodAll_cons_mk (Below.trod laidOut (by kernel_rfl) (of_decide_eq_true (by kernel_rfl)) k2 bel lt2) trodAll_mk0))), rfl, bel.frame _, fun h => by cases h⟩
theorem over : Rows.netEmptiesRow.holds Try.pinned (OpenSpec.ofChange Rows.netEmptiesSpec) :=
  OpenClaim.holds_of_wide 5 Try.f5 rfl rfl rfl rfl rfl rfl rfl ⟨rfl, rfl, rfl, rfl, rfl⟩ rfl rfl rfl rfl rfl (by kernel_rfl) Try.func5 (by kernel_rfl)
    (of_decide_eq_true (by kernel_rfl)) (by unfold Func.isWrapper; first | (rw [if_pos (by decide +kernel)]; kernel_rfl) | (rw [if_neg (by decide +kernel)]; exact ⟨rfl, rfl⟩))
    (fun os started H enc _ => lifted os started H enc)
theorem proved : Rows.NetEmptiesSaid := over
end Go.Proofs.Ytbniaojldjhemaa.netEmpties
