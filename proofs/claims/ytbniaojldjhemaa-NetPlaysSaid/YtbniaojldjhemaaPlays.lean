/- NetPlays: for every []int and script the law returns true, and both read behind the call as before. No conditions. -/
import Derived.Test.YtbniaojldjhemaaScript
namespace Go.Proofs.Ytbniaojldjhemaa.netPlays
open Go.Conc Go.ChangeShapes Go.WideShapes Go.ChangeAt Go.RowKit

theorem built46 (a b : Int) : (Program.built Try.prog 46 [(0, .int .i64 2), (1, .int .i64 a), (2, .int .i64 b)]).map Array.toList = some [.int .i64 2, .int .i64 a, .int .i64 b, .slice none 0 0] := by kernel_rfl
theorem build46 (a b : Int) (w : World) : (Instr.build 46 #[(0, .int .i64 2), (1, .int .i64 a), (2, .int .i64 b)]).run Try.prog w = .ok (.agg #[.int .i64 2, .int .i64 a, .int .i64 b, .slice none 0 0]) w := by
  obtain ⟨cs, h1, h2⟩ := Option.map_eq_some_iff.1 (built46 a b)
  rw [run_build w 46 _ cs h1]
  rw [show cs = #[.int .i64 2, .int .i64 a, .int .i64 b, .slice none 0 0] from Array.toList_inj.1 h2]
theorem wpList_build3 {ops : Array Oper} {rest : List Oper} {o : Oper} {a : Act} {Q : Exit → Act → World → Prop} {w : World} (hgd : o.guard = none) (x y : Operand) (hop : o.op = Op.build 46 #[(0, .const (.int .i64 2)), (1, x), (2, y)]) (u v : Int) (hx : a.eval x = .int .i64 u) (hy : a.eval y = .int .i64 v)
    (h : wpList Try.prog ops Q rest (a.put o.dst (.agg #[.int .i64 2, .int .i64 u, .int .i64 v, .slice none 0 0])) w) : wpList Try.prog ops Q (o :: rest) a w := by
  refine wpList_plain hgd fun K hK => ?_
  unfold Oper.wp execOp
  have hc : a.eval (.const (.int .i64 2)) = .int .i64 2 := rfl
  simp [hop, hx, hy, hc, build46, Result.andThen]
  exact hK _ _ h
theorem _root_.Go.Proofs.Ytbniaojldjhemaa.RefAt.lower {w : World} {base base' qr n : Nat} {p : Nat → Nat} {M : Nat → Nat → List (List UInt8)} (h : RefAt w base qr n p M) (hb : base' ≤ base) : RefAt w base' qr n p M := ⟨Nat.le_trans hb h.lo, h.tree, h.blk, h.rows⟩

set_option maxRecDepth 100000 in
theorem walk_no (A : Option Addr) (cap n : Nat) (f : Nat → Int) (A1 : Option Addr) (c1 m : Nat) (w : World) (hm : n ≤ 9223372036854775807) (h : Arr w w.heap.size A n f) (ht : 100 < n ∨ ¬ IsTree n f) :
    Calls Try.prog 9 #[.slice A n cap, .slice A1 m c1] w fun e w' => e = .returned (.bool true) ∧ Below w.heap.size w w' := by
  by_cases h1 : 100 < n
  · clear ht
    go_enter Try.func9, Try.ntmps9
    go_wp2_with fail
    refine (awake_any _).mono ?_
    rintro e w1 ⟨rfl, hb1⟩
    go_wp2_with fail
    go_ret
    exact ⟨rfl, hb1⟩
  · have h2 := ht.resolve_left h1
    have g1 : decide ((100 : Int) < (n : Int)) = false := by simp; omega
    have HT := Lib.hid h2
    clear ht h1 h2
    go_enter Try.func9, Try.ntmps9
    go_wp2_with fail
    refine (awake_any _).mono ?_
    rintro e w1 ⟨rfl, hb1⟩
    go_wp2_with fail
    refine (new_bad A cap n _ f w1 (h.below hb1) hm HT.out).mono ?_
    rintro e w2 ⟨rfl, rfl⟩
    go_wp2_with fail
    refine (rnew_bad A cap n _ f w1 (h.below hb1) hm HT.out).mono ?_
    rintro e w2 ⟨rfl, rfl⟩
    go_wp2_with fail
    go_ret
    exact ⟨rfl, hb1⟩

set_option maxRecDepth 100000 in
set_option maxHeartbeats 8000000 in
theorem walk_yes (A : Option Addr) (cap n : Nat) (p : Nat → Nat) (As : Option Addr) (c len : Nat) (cs : Nat → Elem) (w : World) (ht : TreeAt w w.heap.size A n p) (hnc : n ≤ cap) (_hc : len ≤ c) (_hm : c ≤ 9223372036854775807) (h : ScriptAt w w.heap.size As len cs) :
    Calls Try.prog 9 #[.slice A n cap, .slice As len c] w fun e w' => e = .returned (.bool true) ∧ Below w.heap.size w w' := by
  have hn1 := ht.1
  have hn16 := ht.2.1
  have g1 : decide ((100 : Int) < (n : Int)) = false := by simp; omega
  have HT := Lib.hid ht
  clear ht
  go_enter Try.func9, Try.ntmps9
  go_wp2_with fail
  refine (awake_any _).mono ?_
  rintro e w1 ⟨rfl, hb1⟩
  have hs01 := hb1.size
  go_wp2_with fail
  refine (new_ok _ cap n p w1 ((HT.out.below hb1).more hs01)).mono ?_
  rintro e w2 ⟨qn, B, L, rfl, N2, HL, hb2⟩
  have hb02 := hb1.trans (hb2.mono hs01)
  have hs02 := hb02.size
  have hs12 := hb2.size
  go_wp2_with fail
  refine (rnew_ok A cap n _ p w2 (HT.out.below hb02) hs02 hnc).mono ?_
  rintro e w3 ⟨qr, rfl, R3, hb3⟩
  have hb13 : Below w1.heap.size w1 w3 := hb2.trans (hb3.mono hs12)
  obtain ⟨X, hX⟩ : ∃ X : Fix, X = ⟨w1.heap.size, qn, B, L, qr, n, p⟩ := ⟨_, rfl⟩
  have hB3 : Both X w3 := by
    subst hX
    exact ⟨HL, HT.out.2.2.1, hb13.size, _, _, N2.below hb3, R3.lower hs12, fun x hx i j _ _ => rfl, fun x hx => ⟨by simp, fun m hm => by simp at hm⟩⟩
  have q1 : qn = X.qn := by rw [hX]
  have q2 : qr = X.qr := by rw [hX]
  have q3 : w1.heap.size = X.base := by rw [hX]
  rw [q3] at hb13 hs01
  rw [q1, q2]
  clear q1 q2 q3 hX N2 R3 HL hb3 hb2 hs12 hs02
  go_wp2_with fail
  go_loopw [10] (fun i_ wr => ∃ i : Nat, i_ = .int .i64 i ∧ i ≤ 100 ∧ i ≤ len ∧ Both X wr ∧ Below X.base w1 wr) (fun i _ => len - (intOf i).toNat)
  case atStart => exact ⟨0, rfl, by omega, by omega, hB3, hb13⟩
  case round =>
    obtain ⟨i, rfl, hi100, hil, hB, hb4⟩ := hrel
    by_cases hgo : i < len ∧ i < 100
    · obtain ⟨hlt, h100⟩ := hgo
      have hlt' : (i : Int) < (len : Int) := by omega
      have h100' : (i : Int) < 100 := by omega
      rcases h with h0 | ⟨g, off, rfl, hg, hE⟩
      · omega
      have hbw := hb1.trans (hb4.mono hs01)
      obtain ⟨e0, e1, e2, e3, ey, ef, et⟩ := (hE i hlt).below hg hbw
      obtain ⟨x, hx⟩ : ∃ x, x = cs i := ⟨_, rfl⟩
      rw [← hx] at e0 e1 e2 e3 ey ef et
      have hBa := hB.below ((Below.refl wr.heap.size wr).alloc (Nat.le_refl _) (.cells #[.int .i64 x.kd, .int .i64 x.f, .int .i64 x.t, .slice x.A x.b.length x.c] 46))
      have hba := hb4.alloc hB.le (.cells #[.int .i64 x.kd, .int .i64 x.f, .int .i64 x.t, .slice x.A x.b.length x.c] 46)
      have hC := Blk.made wr 46 #[.int .i64 x.kd, .int .i64 x.f, .int .i64 x.t, .slice x.A x.b.length x.c]
      have hya := (ey.alloc (Nat.le_trans hs01 hB.le |> fun _ => by have := hbw.size; omega) (.cells #[.int .i64 x.kd, .int .i64 x.f, .int .i64 x.t, .slice x.A x.b.length x.c] 46)).more hs01
      have hcq : wr.heap.size ≠ X.qr := by have := hB.qlt; omega
      obtain ⟨w4, hw4⟩ : ∃ w4, w4 = wr.alloc (.cells #[.int .i64 x.kd, .int .i64 x.f, .int .i64 x.t, .slice x.A x.b.length x.c] 46) := ⟨_, rfl⟩
      obtain ⟨cb, hcb⟩ : ∃ cb, cb = wr.heap.size := ⟨_, rfl⟩
      rw [← hw4] at hBa hba hC hya
      rw [← hcb] at hC hcq
      clear hE hx
      by_cases h200 : x.b.length ≤ 200
      · have g200 : decide ((200 : Int) < (x.b.length : Int)) = false := by simp; omega
        have hdid := did_any X w4 hBa x.kd x.f x.t ef et x.A x.c x.b.length x.b rfl hya h200
        have HD := Lib.hid hdid
        clear hdid
        go_wp2_with fail
        rw [← hw4, ← hcb]
        clear hw4 hcb
        refine HD.out.mono ?_
        rintro e w5 ⟨rfl, hB5, hb5, hst⟩
        have hC5 := hst _ _ _ hC hcq
        obtain ⟨r, l1, l2⟩ := pair_long (hB5.draws 1) x.f x.t ef et
        have L1 := Lib.hid l1
        have L2 := Lib.hid l2
        have hb15 := hba.trans hb5
        have hBf := hB5.draws 1
        clear l1 l2 HD hst hB5
        go_wp2_with fail
        refine wp_region_held_drew (S := (fun w' => w'.cell? ⟨cb, 1, none⟩ = some (.int .i64 x.f) ∧ w'.cell? ⟨cb, 2, none⟩ = some (.int .i64 x.t) ∧ w'.cell? ⟨cb, 3, none⟩ = some (.slice x.A x.b.length x.c))) (by kernel_rfl) (three hC5) (fun hHeld => ?_)
        refine wpAnyH_take (i := 0) (v := ?_) (by simp only [List.getElem?_toArray, List.getElem?_cons_zero]; rfl) (by kernel_rfl) (by kernel_rfl) (by kernel_rfl) (by intros; assumption) (Or.inl ⟨by rfl, ?_⟩) hHeld ?_; rotate_left; (intro w hSw; (try dsimp only at hSw); go_simp; try with_reducible rfl)
        try simp only [Act.put, List.setIfInBounds_toArray, List.set_cons_zero, List.set_cons_succ]
        refine wpAnyH_take (i := 1) (v := ?_) (by simp only [List.getElem?_toArray, List.getElem?_cons_succ, List.getElem?_cons_zero]; rfl) (by kernel_rfl) (by kernel_rfl) (by kernel_rfl) (by intros; assumption) (Or.inl ⟨by rfl, ?_⟩) hHeld ?_; rotate_left; (intro w hSw; (try dsimp only at hSw); go_simp; try with_reducible rfl)
        try simp only [Act.put, List.setIfInBounds_toArray, List.set_cons_zero, List.set_cons_succ]
        refine wpAnyH_take (i := 2) (v := ?_) (by simp only [List.getElem?_toArray, List.getElem?_cons_succ, List.getElem?_cons_zero]; rfl) (by kernel_rfl) (by kernel_rfl) (by kernel_rfl) (by intros; assumption) (Or.inl ⟨by rfl, ?_⟩) hHeld ?_; rotate_left; (intro w hSw; (try dsimp only at hSw); go_simp; try with_reducible rfl)
        try simp only [Act.put, List.setIfInBounds_toArray, List.set_cons_zero, List.set_cons_succ]
        refine wpAnyH_take (i := 3) (v := ?_) (by simp only [List.getElem?_toArray, List.getElem?_cons_succ, List.getElem?_cons_zero]; rfl) (by kernel_rfl) (by kernel_rfl) (by kernel_rfl) (by intros; assumption) (Or.inl ⟨by rfl, ?_⟩) hHeld ?_; rotate_left; (intro w hSw; (try dsimp only at hSw); go_simp; try with_reducible rfl)
        try simp only [Act.put, List.setIfInBounds_toArray, List.set_cons_zero, List.set_cons_succ]
        refine wpAnyH_take (i := 4) (v := ?_) (by simp only [List.getElem?_toArray, List.getElem?_cons_succ, List.getElem?_cons_zero]; rfl) (by kernel_rfl) (by kernel_rfl) (by kernel_rfl) (by intros; assumption) (Or.inl ⟨by rfl, ?_⟩) hHeld ?_; rotate_left; (intro w hSw; (try dsimp only at hSw); go_simp; try with_reducible rfl)
        try simp only [Act.put, List.setIfInBounds_toArray, List.set_cons_zero, List.set_cons_succ]
        refine wpAnyH_take (i := 5) (v := ?_) (by simp only [List.getElem?_toArray, List.getElem?_cons_succ, List.getElem?_cons_zero]; rfl) (by kernel_rfl) (by kernel_rfl) (by kernel_rfl) (by intros; assumption) (Or.inl ⟨by rfl, ?_⟩) hHeld ?_; rotate_left; (intro w hSw; (try dsimp only at hSw); go_simp; try with_reducible rfl)
        try simp only [Act.put, List.setIfInBounds_toArray, List.set_cons_zero, List.set_cons_succ]
        refine wpAnyH_take (i := 6) (v := ?_) (by simp only [List.getElem?_toArray, List.getElem?_cons_succ, List.getElem?_cons_zero]; rfl) (by kernel_rfl) (by kernel_rfl) (by kernel_rfl) (by intros; assumption) (Or.inl ⟨by rfl, ?_⟩) hHeld ?_; rotate_left; (intro w hSw; (try dsimp only at hSw); go_simp; try with_reducible rfl)
        try simp only [Act.put, List.setIfInBounds_toArray, List.set_cons_zero, List.set_cons_succ]
        refine wpAnyH_take (i := 7) (v := ?_) (by simp only [List.getElem?_toArray, List.getElem?_cons_succ, List.getElem?_cons_zero]; rfl) (by kernel_rfl) (by kernel_rfl) (by kernel_rfl) (by intros; assumption) (Or.inl ⟨by rfl, ?_⟩) hHeld ?_; rotate_left; (intro w hSw; (try dsimp only at hSw); go_simp; try with_reducible rfl)
        try simp only [Act.put, List.setIfInBounds_toArray, List.set_cons_zero, List.set_cons_succ]
        refine wpAnyH_take (i := 9) (v := ?_) (by simp only [List.getElem?_toArray, List.getElem?_cons_succ, List.getElem?_cons_zero]; rfl) (by kernel_rfl) (by kernel_rfl) (by kernel_rfl) (by intros; assumption) (Or.inl ⟨by rfl, ?_⟩) hHeld ?_; rotate_left; (intro w hSw; (try dsimp only at hSw); go_simp; try with_reducible rfl)
        try simp only [Act.put, List.setIfInBounds_toArray, List.set_cons_zero, List.set_cons_succ]
        refine wpAnyH_take (i := 10) (v := ?_) (by simp only [List.getElem?_toArray, List.getElem?_cons_succ, List.getElem?_cons_zero]; rfl) (by kernel_rfl) (by kernel_rfl) (by kernel_rfl) (by intros; assumption) (Or.inl ⟨by rfl, ?_⟩) hHeld ?_; rotate_left; (intro w hSw; (try dsimp only at hSw); go_simp; try with_reducible rfl)
        try simp only [Act.put, List.setIfInBounds_toArray, List.set_cons_zero, List.set_cons_succ]
        refine wpAnyH_take (i := 11) (v := ?_) (by simp only [List.getElem?_toArray, List.getElem?_cons_succ, List.getElem?_cons_zero]; rfl) (by kernel_rfl) (by kernel_rfl) (by kernel_rfl) (by intros; assumption) (Or.inl ⟨by rfl, ?_⟩) hHeld ?_; rotate_left; (intro w hSw; (try dsimp only at hSw); go_simp; try with_reducible rfl)
        try simp only [Act.put, List.setIfInBounds_toArray, List.set_cons_zero, List.set_cons_succ]
        refine wpAnyH_take (i := 12) (v := ?_) (by simp only [List.getElem?_toArray, List.getElem?_cons_succ, List.getElem?_cons_zero]; rfl) (by kernel_rfl) (by kernel_rfl) (by kernel_rfl) (by intros; assumption) (Or.inl ⟨by rfl, ?_⟩) hHeld ?_; rotate_left; (intro w hSw; (try dsimp only at hSw); go_simp; try with_reducible rfl)
        try simp only [Act.put, List.setIfInBounds_toArray, List.set_cons_zero, List.set_cons_succ]
        refine wpAnyH_take (i := 13) (v := ?_) (by simp only [List.getElem?_toArray, List.getElem?_cons_succ, List.getElem?_cons_zero]; rfl) (by kernel_rfl) (by kernel_rfl) (by kernel_rfl) (by intros; assumption) (Or.inl ⟨by rfl, ?_⟩) hHeld ?_; rotate_left; (intro w hSw; (try dsimp only at hSw); go_simp; try with_reducible rfl)
        try simp only [Act.put, List.setIfInBounds_toArray, List.set_cons_zero, List.set_cons_succ]
        refine wpAnyH_ready (rs := [8]) (by kernel_rfl) (by simp) (AllReadyH.cons (by simp only [List.getElem?_toArray, List.getElem?_cons_succ, List.getElem?_cons_zero]; rfl) (fun K hK => ?_) AllReadyH.nil)
        clear hHeld
        go_simp
        refine L1.out.mono ?_
        rintro e w6 ⟨rfl, rfl⟩
        try dsimp only
        refine hK.out _ _ (three hC5) (fun hHeld => ?_)
        clear hK K
        try simp only [Act.put, List.setIfInBounds_toArray, List.set_cons_zero, List.set_cons_succ]
        refine wpAnyH_ready (rs := [14]) (by kernel_rfl) (by simp) (AllReadyH.cons (by simp only [List.getElem?_toArray, List.getElem?_cons_succ, List.getElem?_cons_zero]; rfl) (fun K hK => ?_) AllReadyH.nil)
        clear hHeld
        go_simp
        refine L2.out.mono ?_
        rintro e w6 ⟨rfl, rfl⟩
        try dsimp only
        refine hK.out _ _ (three hC5) (fun hHeld => ?_)
        clear hK K
        try simp only [Act.put, List.setIfInBounds_toArray, List.set_cons_zero, List.set_cons_succ]
        refine wpAnyH_ready (rs := [15]) (by kernel_rfl) (by simp) (AllReadyH.cons (by simp only [List.getElem?_toArray, List.getElem?_cons_succ, List.getElem?_cons_zero]; rfl) (fun K hK => ?_) AllReadyH.nil)
        clear hHeld
        go_simp
        refine hK.out _ _ (three hC5) (fun hHeld => ?_)
        clear hK K
        try simp only [Act.put, List.setIfInBounds_toArray, List.set_cons_zero, List.set_cons_succ]
        refine wpAnyH_ready (rs := [16]) (by kernel_rfl) (by simp) (AllReadyH.cons (by simp only [List.getElem?_toArray, List.getElem?_cons_succ, List.getElem?_cons_zero]; rfl) (fun K hK => ?_) AllReadyH.nil)
        clear hHeld
        go_simp
        refine hK.out _ _ (three hC5) (fun hHeld => ?_)
        clear hK K
        try simp only [Act.put, List.setIfInBounds_toArray, List.set_cons_zero, List.set_cons_succ]
        refine wpAnyH_done (by kernel_rfl) ?_ _
        go_wp2_with fail
        go_roundw
        case rel => exact ⟨i + 1, by go_num, by omega, by omega, hBf, below_draws (n := 1) hb15⟩
        case measure => simp [intOf]; omega
      · have g200 : (200 : Int) < (x.b.length : Int) := by omega
        clear h200
        go_wp2_with fail
        rw [← hw4]
        go_roundw
        case rel => exact ⟨i + 1, by go_num, by omega, by omega, hBa, hba⟩
        case measure => simp [intOf]; omega
    · have fin : Hid (Both X wr ∧ Below X.base w1 wr) := ⟨hB, hb4⟩
      rcases (show (len : Int) ≤ (i : Int) ∨ ((i : Int) < (len : Int) ∧ (100 : Int) ≤ (i : Int)) by omega) with g2 | ⟨g2, g3⟩
      all_goals
        clear hgo
        obtain ⟨hB, hb4⟩ := fin.out
        go_wp2_with fail
        go_loopw [13] (fun a_ wr => ∃ a : Nat, a_ = .int .i64 a ∧ a ≤ n ∧ Both X wr ∧ Below X.base w1 wr) (fun a _ => n - (intOf a).toNat)
        case atStart => exact ⟨0, rfl, by omega, hB, hb4⟩
        case round =>
          obtain ⟨a, rfl, han, hB, hb4⟩ := hrel
          by_cases ha : a < n
          · have ha' : (a : Int) < (n : Int) := by omega
            go_wp2_with fail
            go_loopw [14] (fun b_ wr => ∃ b : Nat, b_ = .int .i64 b ∧ b ≤ n ∧ Both X wr ∧ Below X.base w1 wr) (fun b _ => n - (intOf b).toNat)
            case atStart => exact ⟨0, rfl, by omega, hB, hb4⟩
            case round =>
              obtain ⟨b, rfl, hbn, hB, hb4⟩ := hrel
              by_cases hb : b < n
              · have hb' : (b : Int) < (n : Int) := by omega
                go_wp2_with fail
                go_loopw [15] (fun j_ wr => ∃ j : Nat, j_ = .int .i64 j ∧ j ≤ 9 ∧ Both X wr ∧ Below X.base w1 wr) (fun j _ => 9 - (intOf j).toNat)
                case atStart => exact ⟨0, rfl, by omega, hB, hb4⟩
                case round =>
                  obtain ⟨j, rfl, hj, hB, hb4⟩ := hrel
                  by_cases hj9 : j < 9
                  · have hj' : (j : Int) < 9 := by omega
                    have hdid := did_any X wr hB 2 (a : Int) (b : Int) (wf_i64 (by omega)) (wf_i64 (by omega)) none 0 0 [] rfl (.inl rfl) (by omega)
                    have HD := Lib.hid hdid
                    clear hdid
                    go_wp2_with (refine wpList_build3 rfl _ _ rfl _ _ rfl rfl ?_)
                    refine HD.out.mono ?_
                    rintro e w5 ⟨rfl, hB5, hb5, _⟩
                    have hb15 := hb4.trans hb5
                    go_wp2_with fail
                    go_roundw
                    case rel => exact ⟨j + 1, by go_num, by omega, hB5, hb15⟩
                    case measure => simp [intOf]; omega
                  · have hj' : (9 : Int) ≤ (j : Int) := by omega
                    go_wp2_with fail
                    go_roundw
                    case rel => exact ⟨b + 1, by go_num, by omega, hB, hb4⟩
                    case measure => simp [intOf]; omega
              · have hb' : (n : Int) ≤ (b : Int) := by omega
                go_wp2_with fail
                go_roundw
                case rel => exact ⟨a + 1, by go_num, by omega, hB, hb4⟩
                case measure => simp [intOf]; omega
          · have ha' : (n : Int) ≤ (a : Int) := by omega
            go_wp2_with fail
            go_ret
            exact ⟨rfl, hb1.trans (hb4.mono hs01)⟩
theorem walk (A : Option Addr) (cap n : Nat) (f : Nat → Int) (As : Option Addr) (c len : Nat) (cs : Nat → Elem) (w : World) (hnc : n ≤ cap) (hm : cap ≤ 9223372036854775807) (h : Arr w w.heap.size A n f) (hc : len ≤ c) (hm1 : c ≤ 9223372036854775807) (hs : ScriptAt w w.heap.size As len cs) :
    Calls Try.prog 9 #[.slice A n cap, .slice As len c] w fun e w' => e = .returned (.bool true) ∧ Below w.heap.size w w' := by
  by_cases ht : 100 < n ∨ ¬ IsTree n f
  · exact walk_no A cap n f As c len w (by omega) h ht
  · have ht2 : IsTree n f := Classical.byContradiction fun e => ht (.inr e)
    exact walk_yes A cap n _ As c len cs w (h.tree ht2) hnc hc hm1 hs
theorem own : ownKnob Try.prog.godebug = none := by kernel_rfl
theorem laidOut : laidOutB Try.prog = true := by kernel_rfl
set_option maxRecDepth 100000 in
theorem lifted (os : Os) (started : os.Started) (H : Type) (enc : TypeId × Value → H) :
    ReturnsInHanded {} Try.checked os 9 .any (Rows.netPlaysSpec.pre6 enc Try.prog Try.f9 Rows.netPlaysRow.domain false) (Rows.netPlaysSpec.post enc Try.prog Try.f9 false true false false) := by
  refine returnsInHanded_of_change (C := Try.checked) own started (by kernel_rfl) Try.func9
    (ChangeSpec.witness6 (enc := enc) (C := Try.checked) false ⟨#[], #[.slice none 0 0, .slice none 0 0], []⟩ 8 (by kernel_rfl) (by kernel_rfl) (by kernel_rfl) (by kernel_rfl)) ?_
  intro W base args ds gs before hval0 hW _ _
  have hval : ∀ (j : Nat) t v, Try.f9.params[j]? = some t → args[j]? = some v → Value.okWide Try.prog W .any base t v := hval0
  have hW' := hW
  obtain ⟨p, q, hA0, hV, rfl, _, _⟩ := hW
  have hA : DataW.TrodAll enc Try.prog W 0 (fun _ => true) true Try.f9.params.toList args.toList ds p := hA0
  rw [Try.params9] at hA hval
  obtain ⟨v0, vs0, d0, ds0, p0, q0, hargs, rfl, rfl, h0, r0⟩ := trodAll_cons hA
  obtain ⟨v1, vs1, d1, ds1, p1, q1, rfl, rfl, rfl, h1, r1⟩ := trodAll_cons r0
  obtain ⟨rfl, rfl, rfl⟩ := trodAll_nil r1
  obtain rfl : args = #[v0, v1] := by cases args; simp_all
  obtain ⟨rfl, rfl⟩ := trodVars_none hV
  obtain ⟨a0, len0, cap0, rfl⟩ := okWide_slice Try.underlying29 (hval 0 29 v0 rfl rfl)
  have k0 := h0
  have lt0 : ∀ x ∈ p0, x.block < W.heap.size := by obtain ⟨m, hm⟩ := k0; exact DataW.trod_lt m _ _ _ hm
  obtain ⟨l0, hc0, hm0, hb0⟩ := open_arr Try.underlying29 Try.underlying3 (by kernel_rfl) h0
  obtain ⟨a1, len1, cap1, rfl⟩ := okWide_slice Try.underlying41 (hval 1 41 v1 rfl rfl)
  have k1 := h1
  have lt1 : ∀ x ∈ p1, x.block < W.heap.size := by obtain ⟨m, hm⟩ := k1; exact DataW.trod_lt m _ _ _ hm
  obtain ⟨l1, hc1, hm1, hb1⟩ := open_script Try.underlying41 Try.underlying46 (by kernel_rfl) rfl rfl rfl rfl (by kernel_rfl) (by kernel_rfl) (by kernel_rfl) (by kernel_rfl) Try.underlying3 Try.underlying3 Try.underlying3 Try.underlying24 Try.underlying5 (by kernel_rfl) h1
  clear hA0 hval0
  refine (walk a0 cap0 len0 l0 a1 cap1 len1 l1 W hc0 hm0 hb0 hc1 hm1 hb1).mono fun e W' ⟨he, bel⟩ => ?_
  subst he
  exact ⟨_, rfl, _, _, _, [], _, [], hW', trodAll_mk1 (shut_bool Try.underlying4 _), (trodAll_cons_mk (Below.trod laidOut (by kernel_rfl) (of_decide_eq_true (by kernel_rfl)) k0 bel lt0) (trodAll_cons_mk (Below.trod laidOut (by kernel_rfl) (of_decide_eq_true (by kernel_rfl)) k1 bel lt1) trodAll_mk0)), rfl, bel.frame _, fun h => by cases h⟩
theorem over : Rows.netPlaysRow.holds Try.pinned (OpenSpec.ofChange Rows.netPlaysSpec) :=
  OpenClaim.holds_of_wide 9 Try.f9 rfl rfl rfl rfl rfl rfl rfl ⟨rfl, rfl, rfl, rfl, rfl⟩ rfl rfl rfl rfl rfl (by kernel_rfl) Try.func9 (by kernel_rfl)
    (of_decide_eq_true (by kernel_rfl)) (by unfold Func.isWrapper; first | (rw [if_pos (by decide +kernel)]; kernel_rfl) | (rw [if_neg (by decide +kernel)]; exact ⟨rfl, rfl⟩))
    (fun os started H enc _ => lifted os started H enc)
theorem proved : Rows.NetPlaysSaid := over
end Go.Proofs.Ytbniaojldjhemaa.netPlays
