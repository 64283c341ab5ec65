/- The calls at the head of all statements of layer 14. -/
import Derived.Test.YtbniaojldjhemaaNew
import Derived.Lib.SlBytesConst
namespace Go.Proofs.Ytbniaojldjhemaa
open Go.Conc Go.RowKit Go.Maps

def p0 (_ : Nat) : Nat := 0
theorem const_bytes (w : World) (l : List UInt8) (cs : Array Value) (h : cs.toList = bytesV l) (lo hi : Nat) : Bytes (w.alloc (.cells cs 5 (lo, hi))) (w.heap.size + 1) (some ⟨w.heap.size, 0, none⟩) l := by
  refine .inr ⟨_, _, rfl, by omega, fun j u hj => ?_⟩
  rw [World.cell?_alloc_mark, Nat.zero_add, ← Array.getElem?_toList, h]
  exact hj
theorem const_tree (w : World) (m : Nat × Nat) : TreeAt (w.alloc (.cells #[.int .i64 (-1), .int .i64 0, .int .i64 0] 3 m)) (w.heap.size + 1) (some ⟨w.heap.size, 0, none⟩) 3 p0 := by
  refine ⟨by omega, by omega, fun k h1 h2 => by unfold p0; omega, _, _, rfl, by omega, ?_, fun k h1 h2 => ?_⟩
  · rw [World.cell?_alloc_mark]
    rfl
  · rw [World.cell?_alloc_mark]
    match k, h1, h2 with
    | 1, _, _ => rfl
    | 2, _, _ => rfl
theorem new_nil (w : World) : Calls Try.prog 12 #[.slice none 0 0] w fun e w' => e = .returned (.tuple #[.pointer none, .int .i64 120]) ∧ w = w' :=
  new_bad none 0 0 0 (fun _ => 0) w (.inl rfl) (by omega) (fun h => by have := h.lo; omega)
theorem wf_i64 {a : Int} (h : -9223372036854775808 ≤ a ∧ a ≤ 9223372036854775807) : (Lit.int .i64 a).wf = true := WalkArith.wf_i64 h

set_option maxRecDepth 100000 in
set_option maxHeartbeats 2000000 in
theorem awake_any (w : World) : Calls Try.prog 11 #[] w fun e w' => e = .returned (.bool true) ∧ Below w.heap.size w w' := by
  have kc := fun (w : World) (C : Array Value) (n c : Nat) => Lib.run_convert_bytes_const (P := Try.prog) w 24 5 C n c Try.underlying24 Try.underlying5
  have hb0 : Below w.heap.size w (w.alloc (.cells #[.int .i64 (-1), .int .i64 0, .int .i64 0] 3)) := (Below.refl _ w).alloc (Nat.le_refl _) _
  have HT := const_tree w (0, 0)
  go_enter Try.func11, Try.ntmps11
  go_wp2_with fail
  refine (new_ok _ _ _ _ _ (HT.more (by simp))).mono ?_
  rintro e w1 ⟨qn, B, L, rfl, N1, HL, hb1⟩
  simp only [World.size_alloc] at N1
  obtain ⟨⟨y, hy, hyf, hyt⟩, ⟨x, hx, hxf, hxt⟩⟩ := HL.all 1 (by omega) (by omega)
  have hno12 : ∀ x ∈ L, ¬ (x.f = 1 ∧ x.t = 2) := fun z hz ⟨e1, e2⟩ => by
    obtain ⟨j, j1, j2, ⟨e3, e4⟩ | ⟨e3, e4⟩⟩ := HL.only z hz
    · unfold p0 at e4
      omega
    · unfold p0 at e3
      omega
  simp only [p0] at hxf hyt
  have hxf' : x.f = 0 := by simpa using hxf
  have hxt' : x.t = 1 := by simpa using hxt
  have hyf' : y.f = 1 := by simpa using hyf
  have hyt' : y.t = 0 := by simpa using hyt
  have hne : y.c ≠ x.c := fun e => by
    have := N1.apart y hy x hx e
    rw [this, hxf'] at hyf'
    cases hyf'
  have HX := Lib.hid (And.intro hxf' hxt')
  have HY := Lib.hid (And.intro hyf' hyt')
  have HNO := Lib.hid hno12
  clear hxf hxt hyf hyt hxf' hxt' hyf' hyt' HL hno12
  have hb01 : Below w.heap.size w w1 := hb0.trans (hb1.mono (by simp))
  have hs1 := hb1.size
  simp only [World.size_alloc] at hs1
  go_wp2_with fail
  have N1a := N1.below ((Below.refl w1.heap.size w1).alloc (Nat.le_refl _) (.cells #[.int .u8 97] 5 (1, 2)))
  have s1 := send_room _ _ qn B L _ N1a x hx (some ⟨w1.heap.size, 0, none⟩) 1 _ [97] (const_bytes w1 [97] #[.int .u8 97] rfl 1 2) (by simp) (by simp; omega) (by decide) (by decide)
  rw [HX.out.1, HX.out.2] at s1
  simp only [List.length_cons, List.length_nil, Nat.zero_add] at s1
  refine s1.mono ?_
  clear s1
  rintro e w2 ⟨rfl, m1, hm1, _, N2, T2, B2⟩
  have hb02 : Below w.heap.size w w2 := (hb01.alloc hb01.size (.cells #[.int .u8 97] 5 (1, 2))).trans (B2.mono (by omega))
  have hs2 := T2.size
  simp only [World.size_alloc] at hs2
  go_wp2_with fail
  have N2a := N2.below ((Below.refl w2.heap.size w2).alloc (Nat.le_refl _) (.cells #[.int .u8 98] 5 (1, 2)))
  have s2 := send_room _ _ qn B L _ N2a x hx (some ⟨w2.heap.size, 0, none⟩) 1 _ [98] (const_bytes w2 [98] #[.int .u8 98] rfl 1 2) (by simp) (by simp; omega) (by decide) (by simp)
  rw [HX.out.1, HX.out.2] at s2
  simp only [List.length_cons, List.length_nil, Nat.zero_add] at s2
  refine s2.mono ?_
  clear s2
  rintro e w3 ⟨rfl, m2, hm2, _, N3, T3, B3⟩
  have N3' := N3.again
  simp only [if_true, List.nil_append, List.cons_append] at N3'
  have hb03 : Below w.heap.size w w3 := (hb02.alloc hb02.size (.cells #[.int .u8 98] 5 (1, 2))).trans (B3.mono (by omega))
  clear N3 N2a N1a N1 N2
  go_wp2_with fail
  have s3 := turn_first w3 _ qn B L _ N3' x hx m1 [m2] (by simp) (by simp)
  rw [HX.out.1, HX.out.2] at s3
  refine s3.mono ?_
  clear s3
  rintro e w4 ⟨rfl, N4, T4, B4⟩
  have N4' := N4.again
  simp only [List.cons_append, List.nil_append] at N4'
  have hb04 := hb03.trans (B4.mono (by omega))
  obtain ⟨_, hms⟩ := N4'.q x hx
  have hbm := hms m2 (by simp)
  clear N4 N3' hms
  go_wp2_with fail
  have s4 := take_first w4 _ qn B L _ N4' x hx m2 [m1] (by simp)
  rw [HX.out.1, HX.out.2] at s4
  refine s4.mono ?_
  clear s4
  rintro e w5 ⟨rfl, N5, T5, B5⟩
  have N5' := N5.again
  have hb05 := hb04.trans (B5.mono (by omega))
  have hbm5 := hbm.turn T5 T5.size
  obtain ⟨A2, c2, l2⟩ := m2
  simp only at hm2
  subst hm2
  simp only at hbm5
  have hrt := run_text (P := Try.prog) w5 24 9 5 hbm5 Try.underlying24 Try.underlying5 Try.underlying9 1 c2 rfl
  clear N5 N4' hbm hbm5
  unfold Msg.val
  go_wp2_with fail
  have s5 := take_empty w5 _ qn B L _ N5' y hy (by simp [hne])
  rw [HY.out.1, HY.out.2] at s5
  refine s5.mono ?_
  clear s5
  rintro e w6 ⟨rfl, rfl⟩
  go_wp2_with fail
  refine (new_nil _).mono ?_
  rintro e w6 ⟨rfl, rfl⟩
  go_wp2_with fail
  refine (send_out w5 _ qn B L _ N5' 1 2 _ (wf_i64 (by omega)) (wf_i64 (by omega)) HNO.out).mono ?_
  rintro e w6 ⟨rfl, rfl⟩
  go_wp2_with fail
  have s6 := long_in w5 _ qn B L _ N5' x hx
  rw [HX.out.1, HX.out.2] at s6
  simp only [if_true, List.length_cons, List.length_nil, Nat.zero_add] at s6
  refine s6.mono ?_
  clear s6
  rintro e w6 ⟨rfl, rfl⟩
  go_wp2_with fail
  go_ret
  exact ⟨rfl, hb05⟩
end Go.Proofs.Ytbniaojldjhemaa
