/- The walks of the program's check sum and of the reference's: each is the sum of the plain laws, for any bytes that lie anywhere; the world does not change. -/
import Derived.Test.YtckjjionidaecaaRows
import Derived.Test.YtckjjionidaecaaWords
import Derived.Test.YtckjjionidaecaaPlain
namespace Go.Proofs.Ytckjjionidaecaa
open Go.RowKit

theorem take_one (l : List UInt8) (k : Nat) (h : k < l.length) : l.take (k + 1) = l.take k ++ [l[k]] := by
  rw [List.take_succ_eq_append_getElem h]
theorem run_one (l : List UInt8) (k : Nat) (h : k < l.length) : Fr.run 4294967295 (l.take (k + 1)) = Fr.bits 8 (Fr.run 4294967295 (l.take k) ^^^ l[k].toNat) := by
  rw [take_one l k h, Fr.run_snoc]; rfl
theorem bits_odd {j m x : Nat} (hj : j < 8) (h1 : m % 2 = 1) (h : Fr.bits (8 - j) m = x) : Fr.bits (8 - (j + 1)) ((m / 2) ^^^ 3945912366) = x := by
  rw [← h, show 8 - j = (8 - (j + 1)) + 1 by omega]
  simp only [Fr.bits, Fr.bit, if_pos h1]
theorem bits_even {j m x : Nat} (hj : j < 8) (h1 : ¬ m % 2 = 1) (h : Fr.bits (8 - j) m = x) : Fr.bits (8 - (j + 1)) (m / 2) = x := by
  rw [← h, show 8 - j = (8 - (j + 1)) + 1 by omega]
  simp only [Fr.bits, Fr.bit, if_neg h1]

theorem not32 {n : Nat} (h : n < 4294967296) : bits .xor .u32 IntKind.u32.max (n : Int) = ((4294967295 - n : Nat) : Int) := by
  have e : 4294967295 ^^^ n = 4294967295 - n := by
    apply Nat.eq_of_testBit_eq
    intro i
    rw [Nat.testBit_xor, show 4294967295 - n = 2 ^ 32 - (n + 1) by omega, Nat.testBit_two_pow_sub_succ (by omega), show 4294967295 = 2 ^ 32 - 1 by rfl, Nat.testBit_two_pow_sub_one]
    by_cases hi : i < 32
    · simp [hi]
    · have : n.testBit i = false := Nat.testBit_lt_two_pow (Nat.lt_of_lt_of_le h (by have : 2 ^ 32 ≤ 2 ^ i := Nat.pow_le_pow_right (by omega) (by omega); omega))
      simp [hi, this]
  have := u32_xor_nat 4294967295 n (by omega) h
  rw [e] at this
  exact this

set_option maxHeartbeats 400000 in
theorem sum_any (A : Option Addr) (c B : Nat) (l : List UInt8) (w : World) (h : Bytes w B A l) (hm : l.length ≤ 9223372036854775807) :
    Calls Try.prog 15 #[.slice A l.length c] w fun e w' => e = .returned (.int .u32 (Fr.sum l)) ∧ w = w' := by
  go_enter Try.func15, Try.ntmps15
  go_wp2
  go_loop [3, 9] (fun s i => ∃ k : Nat, k ≤ l.length ∧ i = .int .i64 k ∧ s = .int .u32 (Fr.run 4294967295 (l.take k))) (fun _ i => l.length - (intOf i).toNat)
  case atStart => exact ⟨0, Nat.zero_le _, rfl, rfl⟩
  case round =>
    obtain ⟨k, hk, rfl, rfl⟩ := hrel
    have hr := Fr.run_lt (l.take k) (n := 4294967295) (by omega)
    by_cases hlt : k < l.length
    · obtain ⟨b, off, rfl, hb, hc⟩ := h.byte hlt
      have hmix := Fr.mix_lt hr l[k]
      have e0 : (l[k].toNat : Int) % 4294967296 = l[k].toNat := by have := l[k].toNat_lt; omega
      have e1 := u32_xor_nat (Fr.run 4294967295 (l.take k)) l[k].toNat hr (by have := l[k].toNat_lt; omega)
      have HR := Lib.hid (run_one l k hlt)
      go_wp2
      go_loop [3, 17] (fun s i => ∃ j m : Nat, j ≤ 8 ∧ m < 4294967296 ∧ i = .int .i64 j ∧ s = .int .u32 m ∧ Fr.bits (8 - j) m = Fr.bits 8 (Fr.run 4294967295 (l.take k) ^^^ l[k].toNat)) (fun _ i => 8 - (intOf i).toNat)
      case atStart => exact ⟨0, _, by omega, hmix, rfl, rfl, rfl⟩
      case round =>
        obtain ⟨j, m, hj, hm32, rfl, rfl, hd⟩ := hrel
        have HD := Lib.hid hd
        clear hd e1
        by_cases hj8 : j < 8
        · have e2 : bits .and .u32 (m : Int) 1 = ((m % 2 : Nat) : Int) := by
            have := u32_and_nat m 1 hm32 (by omega)
            rw [nat_mask1] at this
            exact this
          have e3 := u32_xor_nat (m / 2) 3945912366 (by omega) (by omega)
          have h3 : m / 2 ^^^ 3945912366 < 4294967296 := Nat.xor_lt_two_pow (n := 32) (by omega) (by omega)
          by_cases h1 : m % 2 = 1
          · have hd1 := Lib.hid (bits_odd hj8 h1 HD.out)
            have g1 : ((m : Int) % 2 == 1) = true := by rw [beq_iff_eq]; omega
            go_wp2
            go_round
            case rel => exact ⟨j + 1, _, by omega, h3, by go_num, by rw [show ((m : Int) / 2) = ((m / 2 : Nat) : Int) by omega]; exact congrArg (Value.int .u32) e3, hd1.out⟩
            case measure => simp [intOf]; omega
          · have hd1 := Lib.hid (bits_even hj8 h1 HD.out)
            have g1 : ((m : Int) % 2 == 1) = false := by rw [beq_eq_false_iff_ne]; omega
            clear h1
            go_wp2
            go_round
            case rel => exact ⟨j + 1, _, by omega, by omega, by go_num, by go_num, hd1.out⟩
            case measure => simp [intOf]; omega
        · obtain rfl : j = 8 := by omega
          have hm8 : m = Fr.run 4294967295 (l.take (k + 1)) := by rw [HR.out]; exact HD.out
          have HM := Lib.hid hm8
          clear hm8
          go_wp2
          go_round
          case rel => exact ⟨k + 1, by omega, by go_num, by rw [HM.out]⟩
          case measure => simp [intOf]; omega
    · obtain rfl : k = l.length := by omega
      have e4 := not32 hr
      rw [List.take_length] at e4
      go_wp2
      go_ret
      exact ⟨by unfold Fr.sum; rfl, rfl⟩

set_option maxHeartbeats 400000 in
theorem refsum_any (A : Option Addr) (c B : Nat) (l : List UInt8) (w : World) (h : Bytes w B A l) (hm : l.length ≤ 9223372036854775807) :
    Calls Try.prog 16 #[.slice A l.length c] w fun e w' => e = .returned (.int .u32 (Fr.sum l)) ∧ w = w' := by
  go_enter Try.func16, Try.ntmps16
  go_wp2
  go_loop [3, 4] (fun s i => ∃ k : Nat, k ≤ l.length ∧ i = .int .i64 k ∧ s = .int .u32 (Fr.run 4294967295 (l.take k))) (fun _ i => l.length - (intOf i).toNat)
  case atStart => exact ⟨0, Nat.zero_le _, rfl, rfl⟩
  case round =>
    obtain ⟨k, hk, rfl, rfl⟩ := hrel
    have hr := Fr.run_lt (l.take k) (n := 4294967295) (by omega)
    by_cases hlt : k < l.length
    · obtain ⟨b, off, rfl, hb, hc⟩ := h.byte hlt
      have hmix := Fr.mix_lt hr l[k]
      have e0 : (l[k].toNat : Int) % 4294967296 = l[k].toNat := by have := l[k].toNat_lt; omega
      have e1 := u32_xor_nat (Fr.run 4294967295 (l.take k)) l[k].toNat hr (by have := l[k].toNat_lt; omega)
      have HR := Lib.hid (run_one l k hlt)
      go_wp2
      go_loop [3, 5] (fun s i => ∃ j m : Nat, j ≤ 8 ∧ m < 4294967296 ∧ i = .int .i64 j ∧ s = .int .u32 m ∧ Fr.bits (8 - j) m = Fr.bits 8 (Fr.run 4294967295 (l.take k) ^^^ l[k].toNat)) (fun _ i => 8 - (intOf i).toNat)
      case atStart => exact ⟨0, _, by omega, hmix, rfl, rfl, rfl⟩
      case round =>
        obtain ⟨j, m, hj, hm32, rfl, rfl, hd⟩ := hrel
        have HD := Lib.hid hd
        clear hd e1
        by_cases hj8 : j < 8
        · have e3 := u32_xor_nat (m / 2) 3945912366 (by omega) (by omega)
          have h3 : m / 2 ^^^ 3945912366 < 4294967296 := Nat.xor_lt_two_pow (n := 32) (by omega) (by omega)
          by_cases h1 : m % 2 = 1
          · have hd1 := Lib.hid (bits_odd hj8 h1 HD.out)
            have g1 : ((m : Int) % 2 == 1) = true := by rw [beq_iff_eq]; omega
            clear h1
            go_wp2
            go_round
            case rel => exact ⟨j + 1, _, by omega, h3, by go_num, by rw [show ((m : Int) / 2) = ((m / 2 : Nat) : Int) by omega]; exact congrArg (Value.int .u32) e3, hd1.out⟩
            case measure => simp [intOf]; omega
          · have hd1 := Lib.hid (bits_even hj8 h1 HD.out)
            have g1 : ((m : Int) % 2 == 1) = false := by rw [beq_eq_false_iff_ne]; omega
            clear h1
            go_wp2
            go_round
            case rel => exact ⟨j + 1, _, by omega, by omega, by go_num, by go_num, hd1.out⟩
            case measure => simp [intOf]; omega
        · obtain rfl : j = 8 := by omega
          have hm8 : m = Fr.run 4294967295 (l.take (k + 1)) := by rw [HR.out]; exact HD.out
          have HM := Lib.hid hm8
          clear hm8
          go_wp2
          go_round
          case rel => exact ⟨k + 1, by omega, by go_num, by rw [HM.out]⟩
          case measure => simp [intOf]; omega
    · obtain rfl : k = l.length := by omega
      have e4 := not32 hr
      rw [List.take_length] at e4
      go_wp2
      go_ret
      exact ⟨by unfold Fr.sum; rfl, rfl⟩
end Go.Proofs.Ytckjjionidaecaa
