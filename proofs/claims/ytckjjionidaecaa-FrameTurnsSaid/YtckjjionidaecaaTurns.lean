/- FrameTurns: for every two []byte, every int and every byte the law returns true, and the arguments read behind the call as before. No conditions. -/
import Derived.Test.YtckjjionidaecaaMore
namespace Go.Proofs.Ytckjjionidaecaa.frameTurns
open Go.ChangeShapes Go.WideShapes Go.ChangeAt Go.RowKit

set_option maxRecDepth 100000 in
set_option maxHeartbeats 2000000 in
theorem walk (A : Option Addr) (c : Nat) (a : List UInt8) (B : Option Addr) (d : Nat) (b : List UInt8) (at_ : Int) (y : Int) (w : World) (_hc : a.length ≤ c) (_hm : c ≤ 9223372036854775807) (ha : Bytes w w.heap.size A a)
    (_hd : b.length ≤ d) (_hn : d ≤ 9223372036854775807) (hb : Bytes w w.heap.size B b) (wa : (Lit.int .i64 at_).wf = true) (wy : (Lit.int .u8 y).wf = true) :
    Calls Try.prog 6 #[.slice A a.length c, .slice B b.length d, .int .i64 at_, .int .u8 y] w fun e w' => e = .returned (.bool true) ∧ Below w.heap.size w w' := by
  have ba := bounds_i64 wa
  obtain ⟨i0, hi0, hz0, hz1, hz2⟩ := info_parts Try.info5
  have by_ := bounds_u8 wy
  obtain ⟨D, rfl⟩ : ∃ D : UInt8, y = (D.toNat : Int) := ⟨UInt8.ofNat y.toNat, by rw [UInt8.toNat_ofNat']; omega⟩
  by_cases hbad : 1000 < a.length ∨ 1000 < b.length ∨ a.length = 0 ∨ b.length = 0
  · obtain h | h | h | h : 1000 < a.length ∨ (a.length ≤ 1000 ∧ 1000 < b.length) ∨ (a.length ≤ 1000 ∧ b.length ≤ 1000 ∧ a.length = 0) ∨ (a.length ≤ 1000 ∧ b.length ≤ 1000 ∧ a.length ≠ 0 ∧ b.length = 0) := by omega
    · clear hbad
      go_enter Try.func6, Try.ntmps6
      go_wp2_with (go_at_call 9; refine (awake_any _).mono ?_; rintro e w1 ⟨rfl, hb1⟩)
      go_ret
      exact ⟨rfl, hb1⟩
    · clear hbad
      obtain ⟨h1, h2⟩ := h
      go_enter Try.func6, Try.ntmps6
      go_wp2_with (go_at_call 9; refine (awake_any _).mono ?_; rintro e w1 ⟨rfl, hb1⟩)
      go_ret
      exact ⟨rfl, hb1⟩
    · clear hbad
      obtain ⟨h1, h2, h3⟩ := h
      have g0 : ((a.length : Int) == 0) = true := by rw [beq_iff_eq]; omega
      clear h3
      go_enter Try.func6, Try.ntmps6
      go_wp2_with (go_at_call 9; refine (awake_any _).mono ?_; rintro e w1 ⟨rfl, hb1⟩)
      go_ret
      exact ⟨rfl, hb1⟩
    · clear hbad
      obtain ⟨h1, h2, h3, h4⟩ := h
      have g0 : ((a.length : Int) == 0) = false := by rw [beq_eq_false_iff_ne]; omega
      have g1 : ((b.length : Int) == 0) = true := by rw [beq_iff_eq]; omega
      clear h3 h4
      go_enter Try.func6, Try.ntmps6
      go_wp2_with (go_at_call 9; refine (awake_any _).mono ?_; rintro e w1 ⟨rfl, hb1⟩)
      go_ret
      exact ⟨rfl, hb1⟩
  · have h1 : a.length ≤ 1000 := by omega
    have h2 : b.length ≤ 1000 := by omega
    have h3 : 0 < a.length := by omega
    have h4 : 0 < b.length := by omega
    have g0 : ((a.length : Int) == 0) = false := by rw [beq_eq_false_iff_ne]; omega
    have g1 : ((b.length : Int) == 0) = false := by rw [beq_eq_false_iff_ne]; omega
    have g2 : ((6 : Int) + a.length == 0) = false := by rw [beq_eq_false_iff_ne]; omega
    have g3 : ((6 : Int) + b.length != 6 + b.length) = false := by simp
    clear hbad
    by_cases hs : at_ < 0
    · obtain ⟨N, rfl⟩ : ∃ N : Nat, at_ = -(N : Int) - 1 := ⟨(-(at_ + 1)).toNat, by omega⟩
      go_enter Try.func6, Try.ntmps6
      go_wp2_with fail
      refine (awake_any _).mono ?_
      rintro e w1 ⟨rfl, hb1⟩
      go_wp2_with fail
      refine (wrap_any A c a w1 ((ha.below hb1).more hb1.size) h3 (by omega)).mono ?_
      rintro e w2 ⟨A2, c2, rfl, ho2, hb2⟩
      have hb2' := hb1.trans (hb2.mono hb1.size)
      go_wp2_with fail
      refine (wrap_any B d b w2 ((hb.below hb2').more hb2'.size) h4 (by omega)).mono ?_
      rintro e w3 ⟨A3, c3, rfl, ho3, hb3⟩
      have hb3' := hb2'.trans (hb3.mono hb2'.size)
      obtain ⟨i, hi⟩ : ∃ i, i = N % b.length := ⟨_, rfl⟩
      have hil : i < b.length := by rw [hi]; exact Nat.mod_lt _ h4
      have m2 : (N : Int) % (b.length : Int) = (i : Int) := by rw [hi]; exact (Int.natCast_emod _ _).symm
      have m1 : (N : Int).tmod (b.length : Int) = (i : Int) := by rw [Int.tmod_eq_emod_of_nonneg (by omega)]; exact m2
      have m3 : IntKind.i64.wrap (i : Int) = i := IntWalk.i64_in _ (by omega)
      have m4 : IntKind.i64.wrap (6 + (i : Int)) = 6 + i := IntWalk.i64_in _ (by omega)
      have m5 : (6 + (i : Int)).toNat = 6 + i := by omega
      have m6 : (0 : Int) ≤ 6 + (i : Int) := by omega
      have m7 : (6 : Int) + (i : Int) < 6 + b.length := by omega
      clear hi
      obtain ⟨g, rfl, hg, hgl, hcap, hcc, hff⟩ := own_addr ho3 (by omega)
      obtain ⟨x, hx⟩ : ∃ x : UInt8, x = b[i] := ⟨_, rfl⟩
      have c0 : w3.cell? ⟨g, 6 + i, none⟩ = some (.int .u8 (x.toNat : Int)) := by rw [hx]; exact hcc _ _ (get_wrap b i hil)
      have f0 := hff (6 + i)
      obtain ⟨z, hz⟩ : ∃ z : UInt8, z = x ^^^ D := ⟨_, rfl⟩
      have e1 : bits .xor .u8 (x.toNat : Int) (D.toNat : Int) = (z.toNat : Int) := by rw [u8_xor_nat x.toNat D.toNat x.toNat_lt D.toNat_lt, hz, UInt8.toNat_xor]
      have HX := Lib.hid hx
      have HZ := Lib.hid hz
      clear hcc hff hx hz
      go_wp2_with fail
      go_region
      have hb4 : Below w.heap.size w (w3.setCell ⟨g, 6 + i, none⟩ (.int .u8 (z.toNat : Int))).drew := (hb3'.setCell (p := ⟨g, 6 + i, none⟩) (by show w.heap.size ≤ g; have := hb2'.size; omega) _).drew
      have hb24 : Below w2.heap.size w2 (w3.setCell ⟨g, 6 + i, none⟩ (.int .u8 (z.toNat : Int))).drew := (hb3.setCell (p := ⟨g, 6 + i, none⟩) (by show w2.heap.size ≤ g; omega) _).drew
      have hx4 : Bytes (w3.setCell ⟨g, 6 + i, none⟩ (.int .u8 (z.toNat : Int))).drew (w3.setCell ⟨g, 6 + i, none⟩ (.int .u8 (z.toNat : Int))).drew.heap.size A2 (Fr.wrap a) := ((Lies.of_own ho2).below hb24).more hb24.size
      have hy4 : Bytes (w3.setCell ⟨g, 6 + i, none⟩ (.int .u8 (z.toNat : Int))).drew (w3.setCell ⟨g, 6 + i, none⟩ (.int .u8 (z.toNat : Int))).drew.heap.size (some ⟨g, 0, none⟩) ((Fr.wrap b).set (6 + i) z) := Lies.of_own (own_put ho3 z)
      have hcap2 := own_cap ho2
      clear hb24 ho2 ho3 c0 f0 e1 m1 m2 m3 m4 m5 m6 m7
      generalize (w3.setCell ⟨g, 6 + i, none⟩ (.int .u8 (z.toNat : Int))).drew = W4 at hb4 hx4 hy4 ⊢
      have ho0 := World.ownsRow_made (e := 5) (size := 1) W4 #[] 0 (Nat.le_refl _) (Nat.zero_le _) rfl
      by_cases hD : D = 0
      · have gD : ((D.toNat : Int) == 0) = true := by rw [hD]; rfl
        have hfull : Fr.full (Fr.wrap a ++ (Fr.wrap b).set (6 + i) z) = [a, b] := by
          have e : (Fr.wrap b).set (6 + i) z = Fr.wrap b := by
            rw [HZ.out, hD, HX.out]
            have := get_wrap b i hil
            refine List.ext_getElem? fun j => ?_
            rw [List.getElem?_set]
            split
            · rename_i hj
              subst hj
              unfold Fr.wrap
              rw [List.getElem?_append_right (by simp [Fr.be2, Fr.be4])]
              simp [Fr.be2, Fr.be4, hil]
              omega
            · rfl
          rw [e, Fr.full_wrap a _ h3 (by omega)]
          have := Fr.full_wrap b [] h4 (by omega)
          rw [List.append_nil] at this
          rw [this]
          rfl
        clear hD
        go_wp2_with (first
          | (at_builtin; refine wpList_append_from _ rfl (.tmp 80) (.tmp 81) 23 rfl W4.heap.size 5 i0 _ 1 Try.underlying23 hi0 hz0 hz1 hz2 rfl _ 0 [] rfl ho0 W4.heap.size A2 (6 + a.length) c2 (bytesV (Fr.wrap a)) rfl (by rw [bytesV_length, Fr.wrap_length]) (hx4.alloc (Nat.le_refl _) _) (bytesV_one _) (by unfold maxLen; omega) (by omega) (by simp) ?_; intro A5 c5 w5 hown5 hg5 hat5; simp only [Nat.zero_add, List.nil_append] at hown5; have hb5 : Below W4.heap.size W4 w5 := ((Below.refl W4.heap.size W4).alloc (Nat.le_refl _) _).trans (below_append ho0 hg5 (Nat.le_refl _) (by simp)); have hy5 := hy4.below hb5)
          | (at_builtin; refine wpList_append_from _ rfl (.tmp 82) (.tmp 83) 23 rfl W4.heap.size 5 i0 _ 1 Try.underlying23 hi0 hz0 hz1 hz2 rfl _ _ _ rfl hown5 W4.heap.size (some ⟨g, 0, none⟩) (6 + b.length) c3 (bytesV ((Fr.wrap b).set (6 + i) z)) rfl (by rw [bytesV_length, List.length_set, Fr.wrap_length]) hy5 (bytesV_one _) (by unfold maxLen; omega) (by omega) hb5.size ?_; intro A6 c6 w6 hown6 hg6 hat6; have hb6 : Below W4.heap.size W4 w6 := hb5.trans (below_append hown5 hg6 (Nat.le_refl _) hb5.size)))
        rw [← bytesV_append] at hown6
        refine (scan_len A6 c6 _ (Fr.wrap a ++ (Fr.wrap b).set (6 + i) z) w6 [a, b] (by rw [List.length_append, List.length_set, Fr.wrap_length, Fr.wrap_length]) hfull (Lies.of_own hown6) (own_cap hown6) (by omega)).mono ?_
        rintro e w7 ⟨A7, c7, rfl, ht7, hb7⟩
        have hb7' := hb4.trans ((hb6.mono hb4.size).trans (hb7.mono (Nat.le_trans hb4.size hb6.size)))
        obtain ⟨b8, o8, A8, c8, rfl, _, e8, hy8⟩ := ht7.at_ (k := 0) (by simp)
        have e8' : w7.cell? ⟨b8, o8, none⟩ = some (.slice A8 a.length c8) := e8
        have hy8' : Bytes w7 w7.heap.size A8 a := hy8
        have t1 := fun j => run_text (P := Try.prog) (w7.drewN j) 23 9 5 (hy8'.drewN j) Try.underlying23 Try.underlying5 Try.underlying9 a.length c8 rfl
        have t2 := fun j => run_text (P := Try.prog) (w7.drewN j) 23 9 5 ((ha.below hb7').drewN j) Try.underlying23 Try.underlying5 Try.underlying9 a.length c rfl
        have eu : ((Fr.used [a, b] : Nat) : Int) = 6 + (a.length : Int) + (6 + (b.length : Int)) := by simp [Fr.used]
        clear e8 hy8 hfull hown6 hown5 hy5 hx4 hy4 ho0
        rw [eu]
        clear eu
        go_wp2_with fail
        go_quiet (fail)
        go_wp2
        go_ret
        exact ⟨rfl, below_draws hb7'⟩
      · have gD : ((D.toNat : Int) == 0) = false := by
          rw [beq_eq_false_iff_ne]
          intro he
          apply hD
          apply UInt8.toNat_inj.1
          have : D.toNat = 0 := by omega
          rw [this]
          rfl
        have hfull : Fr.full (Fr.wrap a ++ (Fr.wrap b).set (6 + i) z) = [a] := by
          refine Fr.full_turned a b i z h3 (by omega) h4 (by omega) hil ?_
          rw [← HX.out, HZ.out]
          intro he
          apply hD
          have h5 := congrArg (fun t => x ^^^ t) he
          simpa [← UInt8.xor_assoc] using h5
        clear hD
        go_wp2_with (first
          | (at_builtin; refine wpList_append_from _ rfl (.tmp 80) (.tmp 81) 23 rfl W4.heap.size 5 i0 _ 1 Try.underlying23 hi0 hz0 hz1 hz2 rfl _ 0 [] rfl ho0 W4.heap.size A2 (6 + a.length) c2 (bytesV (Fr.wrap a)) rfl (by rw [bytesV_length, Fr.wrap_length]) (hx4.alloc (Nat.le_refl _) _) (bytesV_one _) (by unfold maxLen; omega) (by omega) (by simp) ?_; intro A5 c5 w5 hown5 hg5 hat5; simp only [Nat.zero_add, List.nil_append] at hown5; have hb5 : Below W4.heap.size W4 w5 := ((Below.refl W4.heap.size W4).alloc (Nat.le_refl _) _).trans (below_append ho0 hg5 (Nat.le_refl _) (by simp)); have hy5 := hy4.below hb5)
          | (at_builtin; refine wpList_append_from _ rfl (.tmp 82) (.tmp 83) 23 rfl W4.heap.size 5 i0 _ 1 Try.underlying23 hi0 hz0 hz1 hz2 rfl _ _ _ rfl hown5 W4.heap.size (some ⟨g, 0, none⟩) (6 + b.length) c3 (bytesV ((Fr.wrap b).set (6 + i) z)) rfl (by rw [bytesV_length, List.length_set, Fr.wrap_length]) hy5 (bytesV_one _) (by unfold maxLen; omega) (by omega) hb5.size ?_; intro A6 c6 w6 hown6 hg6 hat6; have hb6 : Below W4.heap.size W4 w6 := hb5.trans (below_append hown5 hg6 (Nat.le_refl _) hb5.size)))
        rw [← bytesV_append] at hown6
        refine (scan_len A6 c6 _ (Fr.wrap a ++ (Fr.wrap b).set (6 + i) z) w6 [a] (by rw [List.length_append, List.length_set, Fr.wrap_length, Fr.wrap_length]) hfull (Lies.of_own hown6) (own_cap hown6) (by omega)).mono ?_
        rintro e w7 ⟨A7, c7, rfl, ht7, hb7⟩
        have hb7' := hb4.trans ((hb6.mono hb4.size).trans (hb7.mono (Nat.le_trans hb4.size hb6.size)))
        obtain ⟨b8, o8, A8, c8, rfl, _, e8, hy8⟩ := ht7.at_ (k := 0) (by simp)
        have e8' : w7.cell? ⟨b8, o8, none⟩ = some (.slice A8 a.length c8) := e8
        have hy8' : Bytes w7 w7.heap.size A8 a := hy8
        have t1 := fun j => run_text (P := Try.prog) (w7.drewN j) 23 9 5 (hy8'.drewN j) Try.underlying23 Try.underlying5 Try.underlying9 a.length c8 rfl
        have t2 := fun j => run_text (P := Try.prog) (w7.drewN j) 23 9 5 ((ha.below hb7').drewN j) Try.underlying23 Try.underlying5 Try.underlying9 a.length c rfl
        have eu : ((Fr.used [a] : Nat) : Int) = 6 + (a.length : Int) := by simp [Fr.used]
        clear e8 hy8 hfull hown6 hown5 hy5 hx4 hy4 ho0
        rw [eu]
        clear eu
        go_wp2_with fail
        go_quiet (fail)
        go_wp2
        go_ret
        exact ⟨rfl, below_draws hb7'⟩
    · obtain ⟨N, rfl⟩ : ∃ N : Nat, at_ = (N : Int) := ⟨at_.toNat, by omega⟩
      go_enter Try.func6, Try.ntmps6
      go_wp2_with fail
      refine (awake_any _).mono ?_
      rintro e w1 ⟨rfl, hb1⟩
      go_wp2_with fail
      refine (wrap_any A c a w1 ((ha.below hb1).more hb1.size) h3 (by omega)).mono ?_
      rintro e w2 ⟨A2, c2, rfl, ho2, hb2⟩
      have hb2' := hb1.trans (hb2.mono hb1.size)
      go_wp2_with fail
      refine (wrap_any B d b w2 ((hb.below hb2').more hb2'.size) h4 (by omega)).mono ?_
      rintro e w3 ⟨A3, c3, rfl, ho3, hb3⟩
      have hb3' := hb2'.trans (hb3.mono hb2'.size)
      obtain ⟨i, hi⟩ : ∃ i, i = N % b.length := ⟨_, rfl⟩
      have hil : i < b.length := by rw [hi]; exact Nat.mod_lt _ h4
      have m2 : (N : Int) % (b.length : Int) = (i : Int) := by rw [hi]; exact (Int.natCast_emod _ _).symm
      have m1 : (N : Int).tmod (b.length : Int) = (i : Int) := by rw [Int.tmod_eq_emod_of_nonneg (by omega)]; exact m2
      have m3 : IntKind.i64.wrap (i : Int) = i := IntWalk.i64_in _ (by omega)
      have m4 : IntKind.i64.wrap (6 + (i : Int)) = 6 + i := IntWalk.i64_in _ (by omega)
      have m5 : (6 + (i : Int)).toNat = 6 + i := by omega
      have m6 : (0 : Int) ≤ 6 + (i : Int) := by omega
      have m7 : (6 : Int) + (i : Int) < 6 + b.length := by omega
      clear hi
      obtain ⟨g, rfl, hg, hgl, hcap, hcc, hff⟩ := own_addr ho3 (by omega)
      obtain ⟨x, hx⟩ : ∃ x : UInt8, x = b[i] := ⟨_, rfl⟩
      have c0 : w3.cell? ⟨g, 6 + i, none⟩ = some (.int .u8 (x.toNat : Int)) := by rw [hx]; exact hcc _ _ (get_wrap b i hil)
      have f0 := hff (6 + i)
      obtain ⟨z, hz⟩ : ∃ z : UInt8, z = x ^^^ D := ⟨_, rfl⟩
      have e1 : bits .xor .u8 (x.toNat : Int) (D.toNat : Int) = (z.toNat : Int) := by rw [u8_xor_nat x.toNat D.toNat x.toNat_lt D.toNat_lt, hz, UInt8.toNat_xor]
      have HX := Lib.hid hx
      have HZ := Lib.hid hz
      clear hcc hff hx hz
      go_wp2_with fail
      go_region
      have hb4 : Below w.heap.size w (w3.setCell ⟨g, 6 + i, none⟩ (.int .u8 (z.toNat : Int))).drew := (hb3'.setCell (p := ⟨g, 6 + i, none⟩) (by show w.heap.size ≤ g; have := hb2'.size; omega) _).drew
      have hb24 : Below w2.heap.size w2 (w3.setCell ⟨g, 6 + i, none⟩ (.int .u8 (z.toNat : Int))).drew := (hb3.setCell (p := ⟨g, 6 + i, none⟩) (by show w2.heap.size ≤ g; omega) _).drew
      have hx4 : Bytes (w3.setCell ⟨g, 6 + i, none⟩ (.int .u8 (z.toNat : Int))).drew (w3.setCell ⟨g, 6 + i, none⟩ (.int .u8 (z.toNat : Int))).drew.heap.size A2 (Fr.wrap a) := ((Lies.of_own ho2).below hb24).more hb24.size
      have hy4 : Bytes (w3.setCell ⟨g, 6 + i, none⟩ (.int .u8 (z.toNat : Int))).drew (w3.setCell ⟨g, 6 + i, none⟩ (.int .u8 (z.toNat : Int))).drew.heap.size (some ⟨g, 0, none⟩) ((Fr.wrap b).set (6 + i) z) := Lies.of_own (own_put ho3 z)
      have hcap2 := own_cap ho2
      clear hb24 ho2 ho3 c0 f0 e1 m1 m2 m3 m4 m5 m6 m7
      generalize (w3.setCell ⟨g, 6 + i, none⟩ (.int .u8 (z.toNat : Int))).drew = W4 at hb4 hx4 hy4 ⊢
      have ho0 := World.ownsRow_made (e := 5) (size := 1) W4 #[] 0 (Nat.le_refl _) (Nat.zero_le _) rfl
      by_cases hD : D = 0
      · have gD : ((D.toNat : Int) == 0) = true := by rw [hD]; rfl
        have hfull : Fr.full (Fr.wrap a ++ (Fr.wrap b).set (6 + i) z) = [a, b] := by
          have e : (Fr.wrap b).set (6 + i) z = Fr.wrap b := by
            rw [HZ.out, hD, HX.out]
            have := get_wrap b i hil
            refine List.ext_getElem? fun j => ?_
            rw [List.getElem?_set]
            split
            · rename_i hj
              subst hj
              unfold Fr.wrap
              rw [List.getElem?_append_right (by simp [Fr.be2, Fr.be4])]
              simp [Fr.be2, Fr.be4, hil]
              omega
            · rfl
          rw [e, Fr.full_wrap a _ h3 (by omega)]
          have := Fr.full_wrap b [] h4 (by omega)
          rw [List.append_nil] at this
          rw [this]
          rfl
        clear hD
        go_wp2_with (first
          | (at_builtin; refine wpList_append_from _ rfl (.tmp 80) (.tmp 81) 23 rfl W4.heap.size 5 i0 _ 1 Try.underlying23 hi0 hz0 hz1 hz2 rfl _ 0 [] rfl ho0 W4.heap.size A2 (6 + a.length) c2 (bytesV (Fr.wrap a)) rfl (by rw [bytesV_length, Fr.wrap_length]) (hx4.alloc (Nat.le_refl _) _) (bytesV_one _) (by unfold maxLen; omega) (by omega) (by simp) ?_; intro A5 c5 w5 hown5 hg5 hat5; simp only [Nat.zero_add, List.nil_append] at hown5; have hb5 : Below W4.heap.size W4 w5 := ((Below.refl W4.heap.size W4).alloc (Nat.le_refl _) _).trans (below_append ho0 hg5 (Nat.le_refl _) (by simp)); have hy5 := hy4.below hb5)
          | (at_builtin; refine wpList_append_from _ rfl (.tmp 82) (.tmp 83) 23 rfl W4.heap.size 5 i0 _ 1 Try.underlying23 hi0 hz0 hz1 hz2 rfl _ _ _ rfl hown5 W4.heap.size (some ⟨g, 0, none⟩) (6 + b.length) c3 (bytesV ((Fr.wrap b).set (6 + i) z)) rfl (by rw [bytesV_length, List.length_set, Fr.wrap_length]) hy5 (bytesV_one _) (by unfold maxLen; omega) (by omega) hb5.size ?_; intro A6 c6 w6 hown6 hg6 hat6; have hb6 : Below W4.heap.size W4 w6 := hb5.trans (below_append hown5 hg6 (Nat.le_refl _) hb5.size)))
        rw [← bytesV_append] at hown6
        refine (scan_len A6 c6 _ (Fr.wrap a ++ (Fr.wrap b).set (6 + i) z) w6 [a, b] (by rw [List.length_append, List.length_set, Fr.wrap_length, Fr.wrap_length]) hfull (Lies.of_own hown6) (own_cap hown6) (by omega)).mono ?_
        rintro e w7 ⟨A7, c7, rfl, ht7, hb7⟩
        have hb7' := hb4.trans ((hb6.mono hb4.size).trans (hb7.mono (Nat.le_trans hb4.size hb6.size)))
        obtain ⟨b8, o8, A8, c8, rfl, _, e8, hy8⟩ := ht7.at_ (k := 0) (by simp)
        have e8' : w7.cell? ⟨b8, o8, none⟩ = some (.slice A8 a.length c8) := e8
        have hy8' : Bytes w7 w7.heap.size A8 a := hy8
        have t1 := fun j => run_text (P := Try.prog) (w7.drewN j) 23 9 5 (hy8'.drewN j) Try.underlying23 Try.underlying5 Try.underlying9 a.length c8 rfl
        have t2 := fun j => run_text (P := Try.prog) (w7.drewN j) 23 9 5 ((ha.below hb7').drewN j) Try.underlying23 Try.underlying5 Try.underlying9 a.length c rfl
        have eu : ((Fr.used [a, b] : Nat) : Int) = 6 + (a.length : Int) + (6 + (b.length : Int)) := by simp [Fr.used]
        clear e8 hy8 hfull hown6 hown5 hy5 hx4 hy4 ho0
        rw [eu]
        clear eu
        go_wp2_with fail
        go_quiet (fail)
        go_wp2
        go_ret
        exact ⟨rfl, below_draws hb7'⟩
      · have gD : ((D.toNat : Int) == 0) = false := by
          rw [beq_eq_false_iff_ne]
          intro he
          apply hD
          apply UInt8.toNat_inj.1
          have : D.toNat = 0 := by omega
          rw [this]
          rfl
        have hfull : Fr.full (Fr.wrap a ++ (Fr.wrap b).set (6 + i) z) = [a] := by
          refine Fr.full_turned a b i z h3 (by omega) h4 (by omega) hil ?_
          rw [← HX.out, HZ.out]
          intro he
          apply hD
          have h5 := congrArg (fun t => x ^^^ t) he
          simpa [← UInt8.xor_assoc] using h5
        clear hD
        go_wp2_with (first
          | (at_builtin; refine wpList_append_from _ rfl (.tmp 80) (.tmp 81) 23 rfl W4.heap.size 5 i0 _ 1 Try.underlying23 hi0 hz0 hz1 hz2 rfl _ 0 [] rfl ho0 W4.heap.size A2 (6 + a.length) c2 (bytesV (Fr.wrap a)) rfl (by rw [bytesV_length, Fr.wrap_length]) (hx4.alloc (Nat.le_refl _) _) (bytesV_one _) (by unfold maxLen; omega) (by omega) (by simp) ?_; intro A5 c5 w5 hown5 hg5 hat5; simp only [Nat.zero_add, List.nil_append] at hown5; have hb5 : Below W4.heap.size W4 w5 := ((Below.refl W4.heap.size W4).alloc (Nat.le_refl _) _).trans (below_append ho0 hg5 (Nat.le_refl _) (by simp)); have hy5 := hy4.below hb5)
          | (at_builtin; refine wpList_append_from _ rfl (.tmp 82) (.tmp 83) 23 rfl W4.heap.size 5 i0 _ 1 Try.underlying23 hi0 hz0 hz1 hz2 rfl _ _ _ rfl hown5 W4.heap.size (some ⟨g, 0, none⟩) (6 + b.length) c3 (bytesV ((Fr.wrap b).set (6 + i) z)) rfl (by rw [bytesV_length, List.length_set, Fr.wrap_length]) hy5 (bytesV_one _) (by unfold maxLen; omega) (by omega) hb5.size ?_; intro A6 c6 w6 hown6 hg6 hat6; have hb6 : Below W4.heap.size W4 w6 := hb5.trans (below_append hown5 hg6 (Nat.le_refl _) hb5.size)))
        rw [← bytesV_append] at hown6
        refine (scan_len A6 c6 _ (Fr.wrap a ++ (Fr.wrap b).set (6 + i) z) w6 [a] (by rw [List.length_append, List.length_set, Fr.wrap_length, Fr.wrap_length]) hfull (Lies.of_own hown6) (own_cap hown6) (by omega)).mono ?_
        rintro e w7 ⟨A7, c7, rfl, ht7, hb7⟩
        have hb7' := hb4.trans ((hb6.mono hb4.size).trans (hb7.mono (Nat.le_trans hb4.size hb6.size)))
        obtain ⟨b8, o8, A8, c8, rfl, _, e8, hy8⟩ := ht7.at_ (k := 0) (by simp)
        have e8' : w7.cell? ⟨b8, o8, none⟩ = some (.slice A8 a.length c8) := e8
        have hy8' : Bytes w7 w7.heap.size A8 a := hy8
        have t1 := fun j => run_text (P := Try.prog) (w7.drewN j) 23 9 5 (hy8'.drewN j) Try.underlying23 Try.underlying5 Try.underlying9 a.length c8 rfl
        have t2 := fun j => run_text (P := Try.prog) (w7.drewN j) 23 9 5 ((ha.below hb7').drewN j) Try.underlying23 Try.underlying5 Try.underlying9 a.length c rfl
        have eu : ((Fr.used [a] : Nat) : Int) = 6 + (a.length : Int) := by simp [Fr.used]
        clear e8 hy8 hfull hown6 hown5 hy5 hx4 hy4 ho0
        rw [eu]
        clear eu
        go_wp2_with fail
        go_quiet (fail)
        go_wp2
        go_ret
        exact ⟨rfl, below_draws hb7'⟩

theorem own : ownKnob Try.prog.godebug = none := by kernel_rfl
theorem laidOut : laidOutB Try.prog = true := by kernel_rfl
set_option maxRecDepth 100000 in
theorem lifted (os : Os) (started : os.Started) (H : Type) (enc : TypeId × Value → H) :
    ReturnsInHanded {} Try.checked os 6 .any (Rows.frameTurnsSpec.pre6 enc Try.prog Try.f6 Rows.frameTurnsRow.domain false) (Rows.frameTurnsSpec.post enc Try.prog Try.f6 false true false false) := by
  refine returnsInHanded_of_change (C := Try.checked) own started (by kernel_rfl) Try.func6
    (ChangeSpec.witness6 (enc := enc) (C := Try.checked) false ⟨#[], #[.slice none 0 0, .slice none 0 0, .int .i64 0, .int .u8 0], []⟩ 8 (by kernel_rfl) (by kernel_rfl) (by kernel_rfl) (by kernel_rfl)) ?_
  intro W base args ds gs before hval0 hW _ _
  have hval : ∀ (j : Nat) t v, Try.f6.params[j]? = some t → args[j]? = some v → Value.okWide Try.prog W .any base t v := hval0
  have hW' := hW
  obtain ⟨p, q, hA0, hV, rfl, _, _⟩ := hW
  have hA : DataW.TrodAll enc Try.prog W 0 (fun _ => true) true Try.f6.params.toList args.toList ds p := hA0
  rw [Try.params6] at hA hval
  obtain ⟨v0, vs0, d0, ds0, p0, q0, hargs, rfl, rfl, h0, r0⟩ := trodAll_cons hA
  obtain ⟨v1, vs1, d1, ds1, p1, q1, rfl, rfl, rfl, h1, r1⟩ := trodAll_cons r0
  obtain ⟨v2, vs2, d2, ds2, p2, q2, rfl, rfl, rfl, h2, r2⟩ := trodAll_cons r1
  obtain ⟨v3, vs3, d3, ds3, p3, q3, rfl, rfl, rfl, h3, r3⟩ := trodAll_cons r2
  obtain ⟨rfl, rfl, rfl⟩ := trodAll_nil r3
  obtain rfl : args = #[v0, v1, v2, v3] := by cases args; simp_all
  obtain ⟨rfl, rfl⟩ := trodVars_none hV
  obtain ⟨a0, len0, cap0, rfl⟩ := okWide_slice Try.underlying23 (hval 0 23 v0 rfl rfl)
  have k0 := h0
  have lt0 : ∀ x ∈ p0, x.block < W.heap.size := by obtain ⟨m, hm⟩ := k0; exact DataW.trod_lt m _ _ _ hm
  obtain ⟨l0, hl0, hc0, hm0, hb0⟩ := open_bytes Try.underlying23 Try.underlying5 (by kernel_rfl) h0
  subst hl0
  obtain ⟨a1, len1, cap1, rfl⟩ := okWide_slice Try.underlying23 (hval 1 23 v1 rfl rfl)
  have k1 := h1
  have lt1 : ∀ x ∈ p1, x.block < W.heap.size := by obtain ⟨m, hm⟩ := k1; exact DataW.trod_lt m _ _ _ hm
  obtain ⟨l1, hl1, hc1, hm1, hb1⟩ := open_bytes Try.underlying23 Try.underlying5 (by kernel_rfl) h1
  subst hl1
  obtain ⟨a2, rfl, rfl, rfl, w2⟩ := open_int Try.underlying3 (hval 2 3 v2 rfl rfl) h2
  obtain ⟨a3, rfl, rfl, rfl, w3⟩ := open_int Try.underlying5 (hval 3 5 v3 rfl rfl) h3
  clear hA0 hval0
  refine (walk a0 cap0 l0 a1 cap1 l1 a2 a3 W hc0 hm0 hb0 hc1 hm1 hb1 w2 w3).mono fun e W' ⟨he, bel⟩ => ?_
  subst he
  exact ⟨_, rfl, _, _, _, [], _, [], hW', trodAll_mk1 (shut_bool Try.underlying4 _), (trodAll_cons_mk (Below.trod laidOut (by kernel_rfl) (of_decide_eq_true (by kernel_rfl)) k0 bel lt0) (trodAll_cons_mk (Below.trod laidOut (by kernel_rfl) (of_decide_eq_true (by kernel_rfl)) k1 bel lt1) (trodAll_cons_mk (shut_int Try.underlying3 w2) (trodAll_cons_mk (shut_int Try.underlying5 w3) trodAll_mk0)))), rfl, bel.frame _, fun h => by cases h⟩
theorem over : Rows.frameTurnsRow.holds Try.pinned (OpenSpec.ofChange Rows.frameTurnsSpec) :=
  OpenClaim.holds_of_wide 6 Try.f6 rfl rfl rfl rfl rfl rfl rfl ⟨rfl, rfl, rfl, rfl, rfl⟩ rfl rfl rfl rfl rfl (by kernel_rfl) Try.func6 (by kernel_rfl)
    (of_decide_eq_true (by kernel_rfl)) (by unfold Func.isWrapper; first | (rw [if_pos (by decide +kernel)]; kernel_rfl) | (rw [if_neg (by decide +kernel)]; exact ⟨rfl, rfl⟩))
    (fun os started H enc _ => lifted os started H enc)
theorem proved : Rows.FrameTurnsSaid := over
end Go.Proofs.Ytckjjionidaecaa.frameTurns
