/- The cases: New, Text, Number, Value, Any, Cells, walked: what they hand back is valid. -/
import Derived.Test.YtcedenhfchcgiaaRow02
set_option linter.unusedVariables false
set_option linter.unusedSimpArgs false
namespace Go.Proofs.Ytcedenhfchcgiaa.Cd
open Go.RowKit

theorem only_set3 (w : World) (p : Nat) (a b c : Value) : Only (fun x => x = p) w (((w.setCell ⟨p, 0, none⟩ a).setCell ⟨p, 1, none⟩ b).setCell ⟨p, 2, none⟩ c) :=
  (((Only.refl (fun x => x = p) w).setCell (p := ⟨p, 0, none⟩) (.inl rfl) a).setCell (p := ⟨p, 1, none⟩) (.inl rfl) b).setCell (p := ⟨p, 2, none⟩) (.inl rfl) c
theorem valid_bool {r : Int} (h : r = 0 ∨ r = 1) : VD.valid ⟨3, r, ⟨#[]⟩⟩ = true := by
  rcases h with rfl | rfl <;> simp [VD.valid, bytes_toList]
theorem valid_int (r : Int) : VD.valid ⟨4, r, ⟨#[]⟩⟩ = true := by simp [VD.valid, bytes_toList]
theorem valid_text {s : ByteArray} (h : s.size ≤ 64) : VD.valid ⟨5, 0, s⟩ = true := by simp [VD.valid]; omega
theorem valid_mark {k : Int} (h : k = 1 ∨ k = 2) : VD.valid ⟨k, 0, ⟨#[]⟩⟩ = true := by
  rcases h with rfl | rfl <;> simp [VD.valid, bytes_toList]
/-- A valid value, as an aggregate. -/
def IsVal (v : Value) : Prop := ∃ x : VD, v = .agg #[.int .i64 x.kind, .int .i64 x.n, .string x.s] ∧ x.valid = true ∧ x.Fits

end Go.Proofs.Ytcedenhfchcgiaa.Cd
