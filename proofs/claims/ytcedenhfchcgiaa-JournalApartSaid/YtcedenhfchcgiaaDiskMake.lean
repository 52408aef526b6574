/- New, walked. -/
import Derived.Test.YtcedenhfchcgiaaDiskOps
set_option linter.unusedVariables false
set_option linter.unusedSimpArgs false
namespace Go.Proofs.Ytcedenhfchcgiaa
open Go.RowKit

def DS.new (room : Nat) : DS := { room := room, data := fun _ => [], syn := fun _ => 0, plan := 0, off := false }
theorem new_at (w : World) (room : Nat) : DiskAt (w.alloc (.cells (diskArr (DS.new room) (fun _ => .slice none 0 0)) 55)) w.heap.size (DS.new room) (fun _ => .slice none 0 0) :=
  ⟨heap_alloc_new w _, fun i hi => World.ownsRow_nil _ _ _ _, fun i j _ _ _ => .inl rfl⟩

theorem new_any (w : World) (room : Int) (h0 : 0 ≤ room) (h1 : room ≤ 16777216) :
    Calls Try.prog 7 #[.int .i64 room] w fun e w' => e = .returned (.tuple #[.pointer (some ⟨w.heap.size, 0, none⟩), .int .i64 0]) ∧ w' = w.alloc (.cells (diskArr (DS.new room.toNat) (fun _ => .slice none 0 0)) 55) := by
  obtain ⟨n, rfl⟩ := Int.eq_ofNat_of_zero_le h0
  go_enter Try.func7, Try.ntmps7
  go_wp2
  go_ret2
  exact ⟨rfl, rfl⟩
theorem new_bad (w : World) (room : Int) (h : room < 0 ∨ 16777216 < room) :
    Calls Try.prog 7 #[.int .i64 room] w fun e w' => e = .returned (.tuple #[.pointer none, .int .i64 1]) ∧ w' = w := by
  rcases h with h | h
  · go_enter Try.func7, Try.ntmps7
    go_wp2
    go_ret2
    exact ⟨rfl, rfl⟩
  · have h2 : ¬ room < 0 := by omega
    go_enter Try.func7, Try.ntmps7
    go_wp2
    go_ret2
    exact ⟨rfl, rfl⟩

end Go.Proofs.Ytcedenhfchcgiaa
