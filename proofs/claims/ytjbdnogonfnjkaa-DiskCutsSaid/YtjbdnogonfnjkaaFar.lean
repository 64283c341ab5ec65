/- More of a disk: written beside it; what keeps beside it. Plain lemmas. -/
import Derived.Test.YtjbdnogonfnjkaaAwake
import Derived.Deep.RegionWith
namespace Go.Proofs.Ytjbdnogonfnjkaa
open Go.RowKit

/-- A cell of a block that is neither the disk's nor its row's is written. -/
theorem Disk.put_far {w : World} {q base last room : Nat} {r : Option Nat} {l : List UInt8} (h : Disk w q base r l last room) (g i : Nat) (u : Value) (hq : q ≠ g) (hr : some g ≠ r) : Disk (w.setCell ⟨g, i, none⟩ u) q base r l last room := by
  obtain ⟨A, c, rfl, hb, ho, rest⟩ := h
  exact ⟨A, c, rfl, hb.far (p := ⟨g, i, none⟩) hq u, own_far ho (p := ⟨g, i, none⟩) hr u, rest⟩
theorem Disk.drew {w : World} {q base last room : Nat} {r : Option Nat} {l : List UInt8} (h : Disk w q base r l last room) : Disk w.drew q base r l last room := h
theorem Disk.drewN {w : World} {q base last room : Nat} {r : Option Nat} {l : List UInt8} (h : Disk w q base r l last room) (k : Nat) : Disk (w.drewN k) q base r l last room := h
theorem Disk.lt {w : World} {q base last room : Nat} {r : Option Nat} {l : List UInt8} (h : Disk w q base r l last room) : base ≤ q ∧ q < w.heap.size := by
  obtain ⟨A, c, rfl, hb, ho, hq, rest⟩ := h
  exact ⟨hq, hb.lt⟩
theorem Disk.le {w : World} {q base last room : Nat} {r : Option Nat} {l : List UInt8} (h : Disk w q base r l last room) : last ≤ l.length ∧ l.length ≤ room ∧ room ≤ 1048576 := by
  obtain ⟨A, c, rfl, hb, ho, hq, rest⟩ := h
  exact rest
theorem Moves.cell {w w' : World} {q : Nat} {r : Option Nat} (h : Moves w w' q r) {g i : Nat} (hg : g < w.heap.size) (h1 : g ≠ q) (h2 : some g ≠ r) : w'.cell? ⟨g, i, none⟩ = w.cell? ⟨g, i, none⟩ := World.cell?_of_block (w := w) (h.block g hg h1 h2)
theorem Moves.frozen {w w' : World} {q : Nat} {r : Option Nat} (h : Moves w w' q r) {g i : Nat} (hg : g < w.heap.size) (h1 : g ≠ q) (h2 : some g ≠ r) : w'.frozen? ⟨g, i, none⟩ = w.frozen? ⟨g, i, none⟩ := World.frozen?_of_block (w := w) (h.block g hg h1 h2)
/-- Read, at a length that is named. -/
theorem read_len (q base last room : Nat) (r : Option Nat) (l : List UInt8) (n : Nat) (hn : l.length = n) (w : World) (hd : Disk w q base r l last room) :
    Calls Try.prog 13 #[.pointer (some ⟨q, 0, none⟩)] w fun e w' => ∃ A' c', e = .returned (.slice A' n c') ∧ w'.ownsRow w.heap.size 5 1 (.slice A' n c') n (bytesV l) ∧ Below w.heap.size w w' := by
  subst hn
  exact read_any q base last room r l w hd
/-- A byte turned about by 1 is a byte. -/
theorem xor_one (x : UInt8) : bits .xor .u8 (x.toNat : Int) 1 = (((x ^^^ 1 : UInt8)).toNat : Int) := by
  have h := x.toNat_lt
  have : ∀ n : Fin 256, bits .xor .u8 ((n.val : Nat) : Int) 1 = (((n.val ^^^ 1 : Nat)) : Int) := by decide +kernel
  have := this ⟨x.toNat, h⟩
  rw [this]
  simp
end Go.Proofs.Ytjbdnogonfnjkaa
