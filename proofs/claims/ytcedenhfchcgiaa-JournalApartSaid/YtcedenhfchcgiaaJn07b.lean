/- scan's deferred closure: idle, and where it catches a halt. -/
import Derived.Test.YtcedenhfchcgiaaJn07
import Derived.RecoverIn
set_option linter.unusedVariables false
set_option linter.unusedSimpArgs false
namespace Go.Proofs.Ytcedenhfchcgiaa.Jn
open Go.RowKit Go.Shelf

theorem scan_idle (n : Nat) (p : Value) (w : World) :
    CallsDIn Fence.wide n Try.prog 33 #[p] .returning w fun e u' w' => e = .returned (.tuple #[]) ∧ u' = .returning ∧ w' = w := by
  refine callsDIn_of_wpSIn Try.func33 rfl trivial fun c₀ cs hu => ?_
  simp only [Try.ntmps33, List.size_toArray, List.length_cons, List.length_nil, Nat.reduceAdd, Nat.reduceSub, Array.replicate_succ, Array.replicate_zero, List.push_toArray, List.append_toArray, List.nil_append, List.cons_append]
  apply wpSIn_seq
  apply wpSIn_region
  simp [wpOpsSIn, go_sem, recoverD, hu, Try.ntmps33, Exit.thenS]
  refine wpSIn_of_wpIn rfl ?_
  gi_wp2
  cases c₀
  simp_all [bodyPostS, results, Try.results33]

set_option maxRecDepth 100000 in
theorem scan_catch (n g : Nat) (c : Int) (older : List PanicEntry) (w : World) (y0 y1 : Value) (t1 : TypeId) (h1 : w.heap[g]? = some (.cells #[y0, y1] t1 (0, 0))) :
    CallsDIn Fence.wide n Try.prog 33 #[.pointer (some ⟨g, 0, none⟩)] (.panicking ({ v := .iface 59 (.agg #[.int .i64 c, .bool false]), recovered := false } :: older)) w fun e u' w' =>
      e = .returned (.tuple #[]) ∧ u' = .panicking ({ v := .iface 59 (.agg #[.int .i64 c, .bool false]), recovered := true } :: older) ∧ ∃ w2, Only (fun _ => False) w w2 ∧ w' = (w2.setCell ⟨g, 0, none⟩ (.int .i64 c)).setCell ⟨g, 1, none⟩ (.bool false) := by
  refine callsDIn_of_wpSIn Try.func33 rfl trivial fun c₀ cs hu => ?_
  simp only [Try.ntmps33, List.size_toArray, List.length_cons, List.length_nil, Nat.reduceAdd, Nat.reduceSub, Array.replicate_succ, Array.replicate_zero, List.push_toArray, List.append_toArray, List.nil_append, List.cons_append]
  apply wpSIn_seq
  apply wpSIn_region
  simp [wpOpsSIn, go_sem, recoverD, hu, Try.ntmps33, Exit.thenS]
  refine wpSIn_of_wpIn rfl ?_
  have HD := hide (fun w2 (ho : Only (fun _ => False) w w2) => (show (w2.cell? ⟨g, 0, none⟩ = some y0 ∧ w2.cell? ⟨g, 1, none⟩ = some y1) ∧ w2.frozen? ⟨g, 0, none⟩ = false ∧ w2.frozen? ⟨g, 1, none⟩ = false from
    ⟨⟨cell_of_heap (ho.heap h1 id) 0, cell_of_heap (ho.heap h1 id) 1⟩, frozen_of_heap (ho.heap h1 id) 0, frozen_of_heap (ho.heap h1 id) 1⟩))
  have hO : Only (fun _ => False) w (w.alloc (.cells #[.int .i64 c, .bool false] 59)) := (Only.refl _ w).alloc _
  obtain ⟨⟨q0, q1⟩, z0, z1⟩ := HD.out _ hO
  have HO := hide hO
  have hta : ∀ W, (Instr.typeAssert (.iface 59 (.agg #[.int .i64 c, .bool false])) 20 59 true).run Try.prog W = .ok (.tuple #[.agg #[.int .i64 c, .bool false], .bool true]) W := fun _ => by kernel_rfl
  clear h1 hO
  gi_wp2
  simp [bodyPostS, results, Try.results33]
  exact ⟨_, HO.out, rfl⟩

end Go.Proofs.Ytcedenhfchcgiaa.Jn
