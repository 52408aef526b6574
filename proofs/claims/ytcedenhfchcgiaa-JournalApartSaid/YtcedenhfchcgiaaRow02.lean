/- Rows that are owned: their cells, and append of a value onto them. -/
import Derived.Test.YtcedenhfchcgiaaCase02a
set_option linter.unusedVariables false
set_option linter.unusedSimpArgs false
namespace Go.Proofs.Ytcedenhfchcgiaa.Cd
open Go.RowKit

def vdV (v : VD) : List Value := [.int .i64 v.kind, .int .i64 v.n, .string v.s]
def rowV (vs : List VD) : List Value := vs.flatMap vdV
theorem rowV_nil : rowV [] = [] := rfl
theorem rowV_append (a b : List VD) : rowV (a ++ b) = rowV a ++ rowV b := List.flatMap_append
theorem rowV_one (v : VD) : rowV [v] = vdV v := by simp [rowV]
theorem rowV_len (vs : List VD) : (rowV vs).length = vs.length * 3 := by
  induction vs with
  | nil => rfl
  | cons v vs ih =>
    show (vdV v ++ rowV vs).length = _
    rw [List.length_append, ih, List.length_cons]
    simp [vdV]
    omega
theorem rowV_get (vs : List VD) : ∀ i, i < vs.length → (rowV vs)[i * 3]? = some (.int .i64 (vs.getD i vd0).kind) ∧ (rowV vs)[i * 3 + 1]? = some (.int .i64 (vs.getD i vd0).n) ∧ (rowV vs)[i * 3 + 2]? = some (.string (vs.getD i vd0).s) := by
  induction vs with
  | nil => intro i h; cases h
  | cons v vs ih =>
    intro i h
    have e : rowV (v :: vs) = vdV v ++ rowV vs := rfl
    rw [e]
    cases i with
    | zero => exact ⟨rfl, rfl, rfl⟩
    | succ i =>
      obtain ⟨h1, h2, h3⟩ := ih i (by simpa using h)
      have hl : (vdV v).length = 3 := rfl
      refine ⟨?_, ?_, ?_⟩
      · rw [List.getElem?_append_right (by omega), hl, show (i + 1) * 3 - 3 = i * 3 by omega]; exact h1
      · rw [List.getElem?_append_right (by omega), hl, show (i + 1) * 3 + 1 - 3 = i * 3 + 1 by omega]; exact h2
      · rw [List.getElem?_append_right (by omega), hl, show (i + 1) * 3 + 2 - 3 = i * 3 + 2 by omega]; exact h3
theorem rowV_cells (vs : List VD) : ∀ u ∈ rowV vs, u.oneCell' = true := by
  intro u hu
  obtain ⟨v, _, hv⟩ := List.mem_flatMap.1 hu
  simp [vdV] at hv
  rcases hv with rfl | rfl | rfl <;> rfl
end Go.Proofs.Ytcedenhfchcgiaa.Cd
