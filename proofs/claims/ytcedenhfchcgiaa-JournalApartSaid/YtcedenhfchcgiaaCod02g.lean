/- caught, the deferred closure of Uint, and Uint, walked. -/
import Derived.Test.YtcedenhfchcgiaaCod02f
import Derived.Laws.Pointers
set_option linter.unusedVariables false
set_option linter.unusedSimpArgs false
namespace Go.Proofs.Ytcedenhfchcgiaa.Cd
open Go.RowKit

set_option maxRecDepth 100000 in
theorem caught_any (c : Int) (w : World) : Calls Try.prog 49 #[.iface 92 (.agg #[.int .i64 c])] w fun e w' => e = .returned (.int .i64 c) ∧ Only (fun _ => False) w w' := by
  have hta : ∀ W, (Instr.typeAssert (.iface 92 (.agg #[.int .i64 c])) 20 92 true).run Try.prog W = .ok (.tuple #[.agg #[.int .i64 c], .bool true]) W := fun W => by kernel_rfl
  go_enter Try.func49, Try.ntmps49
  go_wp2
  go_ret
  exact ⟨rfl, (Only.refl _ w).alloc _⟩

/-- What Uint answers. -/
def readUint (l : List UInt8) (k : Int) : Nat × Nat × Int := if k < 0 ∨ (l.length : Int) < k then (0, 0, 1) else rdUint l k.toNat
theorem rdU_zero (l : List UInt8) (at_ : Nat) : ∀ f j N, (rdU l at_ f j N).2.2 ≠ 0 → (rdU l at_ f j N).1 = 0 ∧ (rdU l at_ f j N).2.1 = 0 := by
  intro f
  induction f with
  | zero => intro j N _; exact ⟨rfl, rfl⟩
  | succ f ih =>
    intro j N h
    rw [rdU] at h ⊢
    split
    · rename_i h1
      rw [dif_pos h1] at h
      split
      · rename_i h2
        rw [if_pos h2] at h
        split
        · exact ⟨rfl, rfl⟩
        · rename_i h3
          rw [if_neg h3] at h
          exact absurd rfl h
      · rename_i h2
        rw [if_neg h2] at h
        exact ih _ _ h
    · exact ⟨rfl, rfl⟩

/-- The world at the decoder's first call. -/
def uintW (w : World) (A : Option Addr) (n c : Nat) (k : Int) : World :=
  ((((w.alloc (.cells #[.int .u64 0] 69)).alloc (.cells #[.int .i64 0] 3)).alloc (.cells #[.int .i64 0] 29)).alloc (.cells #[.slice A n c, .int .i64 k] 88))

theorem uintW_heap (w : World) (A : Option Addr) (n c : Nat) (k : Int) :
    (uintW w A n c k).heap[w.heap.size]? = some (.cells #[.int .u64 0] 69 (0, 0)) ∧ (uintW w A n c k).heap[w.heap.size + 1]? = some (.cells #[.int .i64 0] 3 (0, 0)) ∧ (uintW w A n c k).heap[w.heap.size + 1 + 1]? = some (.cells #[.int .i64 0] 29 (0, 0)) ∧
    (uintW w A n c k).heap[w.heap.size + 1 + 1 + 1]? = some (.cells #[.slice A n c, .int .i64 k] 88 (0, 0)) := by
  unfold uintW World.alloc
  simp only [Array.getElem?_push, Array.size_push]
  refine ⟨?_, ?_, ?_, ?_⟩
  · rw [if_neg (by omega), if_neg (by omega), if_neg (by omega), if_pos trivial]
  · rw [if_neg (by omega), if_neg (by omega), if_pos trivial]
  · rw [if_neg (by omega), if_pos trivial]
  · rw [if_pos trivial]

end Go.Proofs.Ytcedenhfchcgiaa.Cd
