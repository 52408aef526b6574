/- begun of layer 2, walked. -/
import Derived.Test.YtcedenhfchcgiaaCod02g
set_option linter.unusedVariables false
set_option linter.unusedSimpArgs false
namespace Go.Proofs.Ytcedenhfchcgiaa.Cd
open Go.RowKit

def bv1 : VD := ⟨3, 1, ⟨#[]⟩⟩
def bv2 : VD := ⟨5, 0, ⟨#[97]⟩⟩
theorem b_code : rowCode [bv1, bv2] = 0 := by
  unfold rowCode
  rw [if_neg (by decide)]
  have h1 : bv1.valid = true := by
    simp [VD.valid, bv1, bytes_toList]
  have h2 : bv2.valid = true := by
    simp [VD.valid, bv2]
    decide
  simp [h1, h2]
theorem b_enc : encRow [bv1, bv2] = [2, 3, 1, 5, 1, 97] := by
  unfold encRow enc bv1 bv2
  simp
  have h1 : leb 2 = [2] := leb_small (by omega)
  have h2 : leb (ByteArray.size ⟨#[97]⟩) = [1] := leb_small (n := 1) (by omega)
  rw [h1, h2]
  rfl
theorem b_300 : leb 300 = [172, 2] := by rw [leb_big (by omega), leb_small (by omega)]; rfl
theorem b_m1 : leb (zig (-1)) = [1] := by
  have : zig (-1) = 1 := by decide
  rw [this, leb_small (by omega)]
  rfl
theorem b_rd : rdUint [128, 0] 0 = (0, 0, 21) := by decide

theorem rds_lit (w : World) (l : List UInt8) (hl : l.length ≤ 1000) : Rds (w.alloc (.cells (bytesV l).toArray 5)) (.slice (some ⟨w.heap.size, 0, none⟩) l.length l.length) (bytesV l) := by
  refine ⟨_, l.length, by rw [bytesV_length], by rw [bytesV_length]; exact Nat.le_refl _, by simp only [maxLen]; omega, (fun h => by cases h), (fun a h _ => by cases h; rfl), fun a h j u hj => ?_⟩
  cases h
  rw [addr_eta _ rfl]
  simp only [Nat.zero_add]
  rw [cell_of_heap (heap_alloc_new w _)]
  simpa using hj

end Go.Proofs.Ytcedenhfchcgiaa.Cd
