/- The walks of the closure that reads a number, of bytes.Clone, of the closure that lays a number, and of both Wraps. -/
import Derived.Test.YtckjjionidaecaaSums
import Derived.Deep.RegionLaw
namespace Go.Proofs.Ytckjjionidaecaa
open Go.RowKit

theorem number_lt (n : Nat) : ∀ l : List UInt8, l.length = n → Fr.number l < 256 ^ n := by
  induction n with
  | zero =>
    intro l hl
    obtain rfl := List.eq_nil_of_length_eq_zero hl
    simp [Fr.number]
  | succ n ih =>
    intro l hl
    have hne : l ≠ [] := by intro h; subst h; simp at hl
    have e := List.dropLast_concat_getLast hne
    rw [← e, Fr.number_snoc, Nat.pow_succ]
    have := ih l.dropLast (by simp [hl])
    have := (l.getLast hne).toNat_lt
    omega
theorem number_small (l : List UInt8) (k : Nat) (hk : k < 4) : Fr.number (l.take k) < 16777216 := by
  have h := number_lt (l.take k).length (l.take k) rfl
  have hl : (l.take k).length ≤ 3 := by rw [List.length_take]; omega
  have : 256 ^ (l.take k).length ≤ 256 ^ 3 := Nat.pow_le_pow_right (by omega) hl
  omega
theorem or_byte (a : Nat) (c : UInt8) (h : a < 16777216) : bits .or .i64 ((a : Int) * 256) (c.toNat : Int) = ((a * 256 + c.toNat : Nat) : Int) := by
  have hc := c.toNat_lt
  have e : (a * 256) ||| c.toNat = a * 256 + c.toNat := nat_join 8 _ _ (by omega) (by omega)
  show IntKind.i64.wrap ((BitVec.ofInt 64 ((a : Int) * 256) ||| BitVec.ofInt 64 (c.toNat : Int)).toNat : Int) = _
  rw [show ((a : Int) * 256) = ((a * 256 : Nat) : Int) by omega, BitVec.toNat_or, ofInt_u64 _ (by omega), ofInt_u64 _ (by omega), e]
  exact IntWalk.i64_in _ (by omega)
theorem number_one (l : List UInt8) (k : Nat) (h : k < l.length) : Fr.number (l.take (k + 1)) = Fr.number (l.take k) * 256 + l[k].toNat := by
  rw [take_one l k h, Fr.number_snoc]

theorem number_any (A : Option Addr) (c B q : Nat) (l : List UInt8) (w : World) (f n : Int) (h : Bytes w B A l) (hm : l.length ≤ 9223372036854775807) (hc : l.length ≤ c)
    (hq : w.cell? ⟨q, 0, none⟩ = some (.slice A l.length c)) (h0 : 0 ≤ f) (h1 : 0 < n) (h4 : n ≤ 4) (hfn : f + n ≤ l.length) :
    Calls Try.prog 18 #[.int .i64 f, .int .i64 n, .pointer (some ⟨q, 0, none⟩)] w fun e w' => e = .returned (.int .i64 (Fr.number ((l.drop f.toNat).take n.toNat))) ∧ w = w' := by
  obtain ⟨f, rfl⟩ := Int.eq_ofNat_of_zero_le h0
  obtain ⟨n, rfl⟩ := Int.eq_ofNat_of_zero_le (Int.le_of_lt h1)
  rw [Int.toNat_natCast, Int.toNat_natCast]
  obtain ⟨b, off, rfl, hb, hcell⟩ := h.open_ (by rw [bytesV_length]; omega)
  clear h
  have hne : ¬ c = f := by omega
  obtain ⟨p, hp, hlen, hpc⟩ : ∃ p, p = (l.drop f).take n ∧ n = p.length ∧ ∀ k (hk : k < p.length), w.cell? ⟨b, off + f + k, none⟩ = some (.int .u8 (p[k].toNat : Int)) := by
    refine ⟨_, rfl, by rw [List.length_take, List.length_drop]; omega, fun k hk => ?_⟩
    rw [List.length_take, List.length_drop] at hk
    rw [Nat.add_assoc]
    refine hcell (f + k) _ ?_
    rw [bytesV_get l (by omega)]
    simp
  rw [← hp]
  have HC := Lib.hid hpc
  clear hcell hpc hp
  subst hlen
  go_enter Try.func18, Try.ntmps18
  go_wp2
  go_loop [6, 16] (fun s i => ∃ k : Nat, k ≤ p.length ∧ i = .int .i64 k ∧ s = .int .i64 (Fr.number (p.take k))) (fun _ i => p.length - (intOf i).toNat)
  case atStart => exact ⟨0, Nat.zero_le _, rfl, rfl⟩
  case round =>
    obtain ⟨k, hk, rfl, rfl⟩ := hrel
    by_cases hlt : k < p.length
    · have hcell := HC.out k hlt
      have hs := number_small p k (by omega)
      have e1 := or_byte _ p[k] hs
      have e0 : wrap64 (p[k].toNat : Int) = p[k].toNat := IntWalk.wrap64_in _ (by have := p[k].toNat_lt; omega)
      have HN := Lib.hid (number_one p k hlt)
      go_wp2
      go_round
      case rel => exact ⟨k + 1, by omega, by go_num, by rw [HN.out]; go_num⟩
      case measure => simp [intOf]; omega
    · obtain rfl : k = p.length := by omega
      rw [List.take_length]
      go_wp2
      go_ret
      exact ⟨rfl, rfl⟩

theorem Try.info5 : (Try.prog.info? 5).map (fun i => (i.zero, i.size, i.bytes)) = some (some (.int .u8 0), 1, 1) := by kernel_rfl
theorem Try.info23 : (Try.prog.info? 23).map (fun i => (i.zero, i.size, i.bytes)) = some (some (.slice none 0 0), 1, 24) := by kernel_rfl

/-- bytes.Clone: a copy in a row of the call's own. -/
theorem clone_any (A : Option Addr) (c : Nat) (l : List UInt8) (w : World) (h : Bytes w w.heap.size A l) (h0 : 0 < l.length) (hm : l.length ≤ 1048576) :
    Calls Try.prog 19 #[.slice A l.length c] w fun e w' => ∃ A' c', e = .returned (.slice A' l.length c') ∧ w'.ownsRow w.heap.size 5 1 (.slice A' l.length c') l.length (bytesV l) ∧ Below w.heap.size w w' := by
  obtain ⟨i0, hi0, hz0, hz1, hz2⟩ := info_parts Try.info5
  obtain ⟨b, off, rfl, hb, hcell⟩ := h.open_ (by rw [bytesV_length]; omega)
  clear hcell
  have hn := Lib.run_eql_slice_nil (P := Try.prog) w 23 5 (some ⟨b, off, none⟩) l.length c 0 0 Try.underlying23
  have hown := World.ownsRow_made (e := 5) (size := 1) w #[] 0 (Nat.le_refl _) (Nat.zero_le _) rfl
  go_enter Try.func19, Try.ntmps19
  go_wp2_with (at_builtin; refine wpList_append_from _ rfl (.tmp 5) (.tmp 6) 23 rfl w.heap.size 5 i0 _ 1 Try.underlying23 hi0 hz0 hz1 hz2 rfl _ 0 [] rfl hown w.heap.size (some ⟨b, off, none⟩) l.length c (bytesV l) rfl (bytesV_length l) (h.alloc (Nat.le_refl _) _) (bytesV_one l) (by unfold maxLen; omega) (by omega) (by simp) ?_; intro A1 c1 w1 hown1 hgrow1 hat1)
  have hb1 := ((Below.refl w.heap.size w).alloc (Nat.le_refl _) (.cells #[] 5)).trans (below_append hown hgrow1 (Nat.le_refl _) (by simp))
  simp only [Nat.zero_add, List.nil_append] at hown1
  go_ret
  exact ⟨_, _, rfl, hown1, hb1⟩

/-- The last m bytes of a number, the highest first. -/
def rest : Nat → Nat → List UInt8
  | 0, _ => []
  | m + 1, n => UInt8.ofNat (n / 256 ^ m) :: rest m n
theorem rest2 (n : Nat) : rest 2 n = Fr.be2 n := by simp [rest, Fr.be2]
theorem rest4 (n : Nat) : rest 4 n = Fr.be4 n := by simp [rest, Fr.be4]

/-- What has grown out of a draw has grown out of what stood ahead of it. -/
theorem grown_undrew {w w' : World} {row : Option Nat} (h : w.drew.grownBy w' row) : w.grownBy w' row := ⟨h.os, h.tape, h.output, h.size, h.block⟩

/-- The variable 'out' in block q holds a row of the call's own that reads as bytes. -/
def Out (w : World) (q base : Nat) (l : List UInt8) : Prop := ∃ v, Blk w q 23 #[v] ∧ w.ownsRow base 5 1 v l.length (bytesV l)

theorem Out.step {w w1 : World} {q base : Nat} {l : List UInt8} {b : UInt8} {u v v1 : Value} {O : Obj} (hq : base ≤ q) (hb : Blk w q 23 #[v]) (hown : w.ownsRow base 5 1 v l.length (bytesV l)) (hs : base ≤ w.heap.size)
    (hown1 : w1.ownsRow base 5 1 v1 (l.length + 1) (bytesV l ++ [u])) (hg : (w.alloc O).grownBy w1 v.ownBlock) (hu : u = .int .u8 (b.toNat : Int)) :
    Out (w1.setCell ⟨q, 0, none⟩ v1) q base (l ++ [b]) ∧ Below base w (w1.setCell ⟨q, 0, none⟩ v1) := by
  subst hu
  have hb1 : Blk w1 q 23 #[v] := (hb.alloc O).grown hg (hb.ne_own hown (by decide))
  have hbel : Below base w w1 := ((Below.refl base w).alloc hs O).trans (below_append (hown.alloc O) hg (Nat.le_refl _) (by simp; omega))
  refine ⟨⟨v1, by simpa using hb1.put 0 v1, ?_⟩, hbel.setCell hq _⟩
  rw [bytesV_append, List.length_append]
  exact own_far hown1 (p := ⟨q, 0, none⟩) (hb1.ne_own hown1 (by decide)) v1
theorem low_byte (n m : Nat) (x : Int) (hx : x = ((n / 256 ^ m : Nat) : Int)) : Value.int .u8 (IntKind.u8.wrap x) = .int .u8 ((UInt8.ofNat (n / 256 ^ m)).toNat : Int) := by
  subst hx
  rw [IntKind.wrap_u8, UInt8.toNat_ofNat']
  congr 1

set_option maxHeartbeats 1000000 in
theorem lay_any (k q base : Nat) (l : List UInt8) (w : World) (n : Nat) (h4 : k ≤ 4) (hl : l.length ≤ 100000) (hq : base ≤ q) (ho : Out w q base l) (hs : base ≤ w.heap.size) :
    Calls Try.prog 17 #[.int .u32 n, .int .i64 k, .pointer (some ⟨q, 0, none⟩)] w fun e w' => e = .returned (.tuple #[]) ∧ Out w' q base (l ++ rest k n) ∧ Below base w w' := by
  obtain ⟨i0, hi0, hz0, hz1, hz2⟩ := info_parts Try.info5
  go_enter Try.func17, Try.ntmps17
  go_wp2
  go_loopw [5] (fun i wr => ∃ (m : Nat) (x : Int) (cur : List UInt8), m ≤ 4 ∧ i = .int .i64 x ∧ x + 1 = m ∧ cur.length + m ≤ 100004 ∧ Out wr q base cur ∧ cur ++ rest m n = l ++ rest k n ∧ Below base w wr) (fun i _ => (intOf i + 1).toNat)
  case atStart => exact ⟨k, _, l, h4, rfl, by omega, by omega, ho, rfl, Below.refl _ _⟩
  case round =>
    obtain ⟨m, x, cur, hm, rfl, hx, hlc, ⟨v, hbv, hown⟩, hcur, hbw⟩ := hrel
    have HX := Lib.hid hx
    have HC := Lib.hid hcur
    clear hx hcur ho
    have c0 := hbv.cell 0
    have f0 := hbv.free 0
    simp at c0
    have ca : ∀ O, (wr.alloc O).cell? ⟨q, 0, none⟩ = some v := fun O => by simpa using (hbv.alloc O).cell 0
    have w0 : IntKind.i64.wrap 0 = 0 := by decide
    have w8 : IntKind.i64.wrap 8 = 8 := by decide
    have w16 : IntKind.i64.wrap 16 = 16 := by decide
    have w24 : IntKind.i64.wrap 24 = 24 := by decide
    have hsr : base ≤ wr.heap.size := Nat.le_trans hs hbw.size
    by_cases h0 : m = 0
    · subst h0
      obtain rfl : x = -1 := by have := HX.out; omega
      have hr : cur = l ++ rest k n := by rw [← HC.out]; simp [rest]
      have HR := Lib.hid hr
      clear hr
      go_wp2
      go_end0
      exact ⟨rfl, by rw [← HR.out]; exact ⟨v, hbv, hown⟩, hbw⟩
    · obtain rfl | rfl | rfl | rfl : x = 0 ∨ x = 1 ∨ x = 2 ∨ x = 3 := by have := HX.out; omega
      · go_wp2
        go_region_law ((refine step_append_from _ rfl (.tmp 12) (.tmp 18) 23 rfl base 5 i0 _ 1 Try.underlying23 hi0 hz0 hz1 hz2 rfl v cur.length (bytesV cur) (by simp [Act.eval]) (by exact hown.alloc _) (wr.heap.size + 1) (some ⟨wr.heap.size, 0, none⟩) 1 1 [.int .u8 (IntKind.u8.wrap (n : Int))] (by simp [Act.eval]) rfl (by exact (Lies.one wr 5 _).drew) (by simp [Value.oneCell']) (by unfold maxLen; omega) (by omega) (by simp; omega) ?_; intro A1 c1 w1 hown1 hgrow1 hat1; have hg1 := grown_undrew hgrow1; have hb1 := (hbv.alloc _).grown hg1 (hbv.ne_own hown (by decide)); have cc := hb1.cell 0; have ff := hb1.free 0; simp at cc))
        all_goals
          have R := Out.step hq hbv hown hsr hown1 hg1 (low_byte n 0 _ (by simp))
          go_wp2
          go_roundw
          case rel => exact ⟨0, _, cur ++ [UInt8.ofNat (n / 256 ^ 0)], by omega, rfl, by omega, by have := HX.out; simp; omega, R.1, by rw [← HC.out, show m = 0 + 1 by have := HX.out; omega]; simp [rest], hbw.trans R.2⟩
          case measure => simp [intOf]
      · go_wp2
        go_region_law ((refine step_append_from _ rfl (.tmp 12) (.tmp 18) 23 rfl base 5 i0 _ 1 Try.underlying23 hi0 hz0 hz1 hz2 rfl v cur.length (bytesV cur) (by simp [Act.eval]) (by exact hown.alloc _) (wr.heap.size + 1) (some ⟨wr.heap.size, 0, none⟩) 1 1 [.int .u8 (IntKind.u8.wrap ((n : Int) / 256))] (by simp [Act.eval]) rfl (by exact (Lies.one wr 5 _).drew) (by simp [Value.oneCell']) (by unfold maxLen; omega) (by omega) (by simp; omega) ?_; intro A1 c1 w1 hown1 hgrow1 hat1; have hg1 := grown_undrew hgrow1; have hb1 := (hbv.alloc _).grown hg1 (hbv.ne_own hown (by decide)); have cc := hb1.cell 0; have ff := hb1.free 0; simp at cc))
        all_goals
          have R := Out.step hq hbv hown hsr hown1 hg1 (low_byte n 1 _ (by simp))
          go_wp2
          go_roundw
          case rel => exact ⟨1, _, cur ++ [UInt8.ofNat (n / 256 ^ 1)], by omega, rfl, by omega, by have := HX.out; simp; omega, R.1, by rw [← HC.out, show m = 1 + 1 by have := HX.out; omega]; simp [rest], hbw.trans R.2⟩
          case measure => simp [intOf]
      · go_wp2
        go_region_law ((refine step_append_from _ rfl (.tmp 12) (.tmp 18) 23 rfl base 5 i0 _ 1 Try.underlying23 hi0 hz0 hz1 hz2 rfl v cur.length (bytesV cur) (by simp [Act.eval]) (by exact hown.alloc _) (wr.heap.size + 1) (some ⟨wr.heap.size, 0, none⟩) 1 1 [.int .u8 (IntKind.u8.wrap ((n : Int) / 65536))] (by simp [Act.eval]) rfl (by exact (Lies.one wr 5 _).drew) (by simp [Value.oneCell']) (by unfold maxLen; omega) (by omega) (by simp; omega) ?_; intro A1 c1 w1 hown1 hgrow1 hat1; have hg1 := grown_undrew hgrow1; have hb1 := (hbv.alloc _).grown hg1 (hbv.ne_own hown (by decide)); have cc := hb1.cell 0; have ff := hb1.free 0; simp at cc))
        all_goals
          have R := Out.step hq hbv hown hsr hown1 hg1 (low_byte n 2 _ (by simp))
          go_wp2
          go_roundw
          case rel => exact ⟨2, _, cur ++ [UInt8.ofNat (n / 256 ^ 2)], by omega, rfl, by omega, by have := HX.out; simp; omega, R.1, by rw [← HC.out, show m = 2 + 1 by have := HX.out; omega]; simp [rest], hbw.trans R.2⟩
          case measure => simp [intOf]
      · go_wp2
        go_region_law ((refine step_append_from _ rfl (.tmp 12) (.tmp 18) 23 rfl base 5 i0 _ 1 Try.underlying23 hi0 hz0 hz1 hz2 rfl v cur.length (bytesV cur) (by simp [Act.eval]) (by exact hown.alloc _) (wr.heap.size + 1) (some ⟨wr.heap.size, 0, none⟩) 1 1 [.int .u8 (IntKind.u8.wrap ((n : Int) / 16777216))] (by simp [Act.eval]) rfl (by exact (Lies.one wr 5 _).drew) (by simp [Value.oneCell']) (by unfold maxLen; omega) (by omega) (by simp; omega) ?_; intro A1 c1 w1 hown1 hgrow1 hat1; have hg1 := grown_undrew hgrow1; have hb1 := (hbv.alloc _).grown hg1 (hbv.ne_own hown (by decide)); have cc := hb1.cell 0; have ff := hb1.free 0; simp at cc))
        all_goals
          have R := Out.step hq hbv hown hsr hown1 hg1 (low_byte n 3 _ (by simp))
          go_wp2
          go_roundw
          case rel => exact ⟨3, _, cur ++ [UInt8.ofNat (n / 256 ^ 3)], by omega, rfl, by omega, by have := HX.out; simp; omega, R.1, by rw [← HC.out, show m = 3 + 1 by have := HX.out; omega]; simp [rest], hbw.trans R.2⟩
          case measure => simp [intOf]
end Go.Proofs.Ytckjjionidaecaa
