/- The decoder's value, walked. -/
import Derived.Test.YtcedenhfchcgiaaRd02b
import Derived.Test.YtcedenhfchcgiaaCase02b
set_option linter.unusedVariables false
set_option linter.unusedSimpArgs false
namespace Go.Proofs.Ytcedenhfchcgiaa.Cd
open Go.RowKit

/-- A value, as an aggregate. -/
def aggV (v : VD) : Value := .agg #[.int .i64 v.kind, .int .i64 v.n, .string v.s]
theorem aggV_mk (k n : Int) (s : ByteArray) : aggV ⟨k, n, s⟩ = .agg #[.int .i64 k, .int .i64 n, .string s] := rfl
/-- A block of three cells, as facts. -/
theorem three_facts {w : World} {p : Nat} {a b c : Value} {t : TypeId} (h : w.heap[p]? = some (.cells #[a, b, c] t (0, 0))) : w.cell? ⟨p, 0, none⟩ = some a ∧ w.cell? ⟨p, 1, none⟩ = some b ∧ w.cell? ⟨p, 2, none⟩ = some c ∧ w.frozen? ⟨p, 0, none⟩ = false ∧ w.frozen? ⟨p, 1, none⟩ = false ∧ w.frozen? ⟨p, 2, none⟩ = false :=
  ⟨cell_of_heap h 0, cell_of_heap h 1, cell_of_heap h 2, frozen_of_heap h 0, frozen_of_heap h 1, frozen_of_heap h 2⟩

theorem heap_keep {w : World} {p : Nat} {o : Obj} (h : w.heap[p]? = some o) (o2 : Obj) : (w.alloc o2).heap[p]? = some o := ((Only.refl (fun _ => False) w).alloc o2).heap h id

end Go.Proofs.Ytcedenhfchcgiaa.Cd
