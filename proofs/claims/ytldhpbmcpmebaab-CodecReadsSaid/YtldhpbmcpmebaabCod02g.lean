/- caught, the deferred closure of Uint, and Uint, walked. -/
import Derived.Test.YtldhpbmcpmebaabCod02f
import Derived.Laws.Pointers
set_option linter.unusedVariables false
set_option linter.unusedSimpArgs false
namespace Go.Proofs.Ytldhpbmcpmebaab.Cd
open Go.RowKit

set_option maxRecDepth 100000 in
theorem caught_any (c : Int) (w : World) : Calls Try.prog 69 #[.iface 126 (.agg #[.int .i64 c])] w fun e w' => e = .returned (.int .i64 c) ∧ Only (fun _ => False) w w' := by
  have hta : ∀ W, (Instr.typeAssert (.iface 126 (.agg #[.int .i64 c])) 20 126 true).run Try.prog W = .ok (.tuple #[.agg #[.int .i64 c], .bool true]) W := fun W => by kernel_rfl
  go_enter Try.func69, Try.ntmps69
  go_wp2
  go_ret
  exact ⟨rfl, (Only.refl _ w).alloc _⟩

theorem catch_idle (p1 p2 p3 : Value) (w : World) :
    CallsD Try.prog 68 #[p1, p2, p3] .returning w fun e u' w' => e = .returned (.tuple #[]) ∧ u' = .returning ∧ w' = w := by
  refine callsD_of_wpS Try.func68 rfl fun c₀ cs hu => ?_
  apply wpS_seq
  apply wpS_region
  simp [wpOpsS, go_sem, recoverD, hu, Try.ntmps68, Exit.thenS]
  refine wpS_of_wp ?_
  go_wp2
  cases c₀
  simp_all [bodyPostS, results, Try.results68]

set_option maxRecDepth 100000 in
theorem catch_panicking (g1 g2 g3 : Nat) (c : Int) (older : List PanicEntry) (w : World) (x1 x2 x3 : Value) (t1 t2 t3 : TypeId) (h1 : w.heap[g1]? = some (.cells #[x1] t1 (0, 0))) (h2 : w.heap[g2]? = some (.cells #[x2] t2 (0, 0))) (h3 : w.heap[g3]? = some (.cells #[x3] t3 (0, 0)))
    (n12 : g1 ≠ g2) (n13 : g1 ≠ g3) (n23 : g2 ≠ g3) :
    CallsD Try.prog 68 #[.pointer (some ⟨g1, 0, none⟩), .pointer (some ⟨g2, 0, none⟩), .pointer (some ⟨g3, 0, none⟩)] (.panicking ({ v := .iface 126 (.agg #[.int .i64 c]), recovered := false } :: older)) w fun e u' w' =>
      e = .returned (.tuple #[]) ∧ u' = .panicking ({ v := .iface 126 (.agg #[.int .i64 c]), recovered := true } :: older) ∧ ∃ w2, Only (fun _ => False) w w2 ∧ w' = ((w2.setCell ⟨g1, 0, none⟩ (.int .u64 0)).setCell ⟨g2, 0, none⟩ (.int .i64 0)).setCell ⟨g3, 0, none⟩ (.int .i64 c) := by
  refine callsD_of_wpS Try.func68 rfl fun c₀ cs hu => ?_
  apply wpS_seq
  apply wpS_region
  simp [wpOpsS, go_sem, recoverD, hu, Try.ntmps68, Exit.thenS]
  refine wpS_of_wp ?_
  have HD := hide (fun w2 (ho : Only (fun _ => False) w w2) => (show (w2.cell? ⟨g1, 0, none⟩ = some x1 ∧ w2.cell? ⟨g2, 0, none⟩ = some x2 ∧ w2.cell? ⟨g3, 0, none⟩ = some x3) ∧ w2.frozen? ⟨g1, 0, none⟩ = false ∧ w2.frozen? ⟨g2, 0, none⟩ = false ∧ w2.frozen? ⟨g3, 0, none⟩ = false from
    ⟨⟨cell_of_heap (ho.heap h1 id) 0, cell_of_heap (ho.heap h2 id) 0, cell_of_heap (ho.heap h3 id) 0⟩, frozen_of_heap (ho.heap h1 id) 0, frozen_of_heap (ho.heap h2 id) 0, frozen_of_heap (ho.heap h3 id) 0⟩))
  have m12 := n12.symm
  have m13 := n13.symm
  have m23 := n23.symm
  clear h1 h2 h3
  go_wp2_with (go_at_call 69; refine (caught_any c _).mono ?_; rintro e w2 ⟨rfl, hO⟩; obtain ⟨⟨q1, q2, q3⟩, z1, z2, z3⟩ := HD.out _ hO; have HO := hide hO; clear hO)
  simp [bodyPostS, results, Try.results68]
  exact ⟨_, HO.out, rfl⟩

/-- What Uint answers. -/
def readUint (l : List UInt8) (k : Int) : Nat × Nat × Int := if k < 0 ∨ (l.length : Int) < k then (0, 0, 1) else rdUint l k.toNat
theorem rdU_zero (l : List UInt8) (at_ : Nat) : ∀ f j N, (rdU l at_ f j N).2.2 ≠ 0 → (rdU l at_ f j N).1 = 0 ∧ (rdU l at_ f j N).2.1 = 0 := by
  intro f
  induction f with
  | zero => intro j N _; exact ⟨rfl, rfl⟩
  | succ f ih =>
    intro j N h
    rw [rdU] at h ⊢
    split
    · rename_i h1
      rw [dif_pos h1] at h
      split
      · rename_i h2
        rw [if_pos h2] at h
        split
        · exact ⟨rfl, rfl⟩
        · rename_i h3
          rw [if_neg h3] at h
          exact absurd rfl h
      · rename_i h2
        rw [if_neg h2] at h
        exact ih _ _ h
    · exact ⟨rfl, rfl⟩

/-- The world at the decoder's first call. -/
def uintW (w : World) (A : Option Addr) (n c : Nat) (k : Int) : World :=
  ((((w.alloc (.cells #[.int .u64 0] 43)).alloc (.cells #[.int .i64 0] 3)).alloc (.cells #[.int .i64 0] 31)).alloc (.cells #[.slice A n c, .int .i64 k] 99))

theorem uintW_heap (w : World) (A : Option Addr) (n c : Nat) (k : Int) :
    (uintW w A n c k).heap[w.heap.size]? = some (.cells #[.int .u64 0] 43 (0, 0)) ∧ (uintW w A n c k).heap[w.heap.size + 1]? = some (.cells #[.int .i64 0] 3 (0, 0)) ∧ (uintW w A n c k).heap[w.heap.size + 1 + 1]? = some (.cells #[.int .i64 0] 31 (0, 0)) ∧
    (uintW w A n c k).heap[w.heap.size + 1 + 1 + 1]? = some (.cells #[.slice A n c, .int .i64 k] 99 (0, 0)) := by
  unfold uintW World.alloc
  simp only [Array.getElem?_push, Array.size_push]
  refine ⟨?_, ?_, ?_, ?_⟩
  · rw [if_neg (by omega), if_neg (by omega), if_neg (by omega), if_pos trivial]
  · rw [if_neg (by omega), if_neg (by omega), if_pos trivial]
  · rw [if_neg (by omega), if_pos trivial]
  · rw [if_pos trivial]

set_option maxRecDepth 100000 in
set_option maxHeartbeats 1000000 in
theorem Uint_bad {w : World} (x : Value) (l : List UInt8) (k : Int) (hx : Rds w x (bytesV l)) (hl : l.length ≤ 9223372036854775000) (hk : k < 0 ∨ (l.length : Int) < k) :
    Calls Try.prog 27 #[x, .int .i64 k] w fun e w' => e = .returned (.tuple #[.int .u64 0, .int .i64 0, .int .i64 1]) ∧ Only (fun _ => False) w w' := by
  obtain ⟨A, n, c, rfl⟩ := rds_form hx
  have ho : Only (fun _ => False) w (uintW w A n c k) := ((((Only.refl _ w).alloc _).alloc _).alloc _).alloc _
  have hW := uintW_heap w A n c k
  have hD : Dec (uintW w A n c k) (w.heap.size + 1 + 1 + 1) (.slice A n c) k := hW.2.2.2
  have HB := hide (begin_bad hD (hx.only ho fun _ _ => id) hk)
  have hmf : ∀ (fn : Fn) (first cap : Array Value) (w : World), (Instr.makeFunc fn first cap).run Try.prog w = .ok (.func fn first cap) w := fun _ _ _ _ => rfl
  have HO := hide ho
  have HW := hide hW
  clear hx hk hD ho hW
  go_enter_defers Try.func27, Try.ntmps27
  go_wp2_with fail
  refine HB.out.mono ?_
  rintro e w2 ⟨⟨q, rfl⟩, rfl⟩
  refine leaves_cons (f := 68) (args := #[.pointer (some ⟨w.heap.size, 0, none⟩), .pointer (some ⟨w.heap.size + 1, 0, none⟩), .pointer (some ⟨w.heap.size + 1 + 1, 0, none⟩)]) (by simp) (by simp [go_sem]) ?_
  refine (catch_panicking w.heap.size (w.heap.size + 1) (w.heap.size + 1 + 1) 1 [] _ (.int .u64 0) (.int .i64 0) (.int .i64 0) 43 3 31 ?_ ?_ ?_ (by omega) (by omega) (by omega)).mono ?_
  · exact HW.out.1
  · exact HW.out.2.1
  · exact HW.out.2.2.1
  · rintro e u' w'' ⟨rfl, rfl, w3, h3, rfl⟩
    obtain ⟨W1, W2, W3, W4⟩ := HW.out
    have c1 := cell_of_heap (h3.heap W1 id) 0
    have c2 := cell_of_heap (h3.heap W2 id) 0
    have c3 := cell_of_heap (h3.heap W3 id) 0
    simp [Leaves, settle, results, Try.results27, go_sem, c1, c2, c3]
    exact ((((HO.out.drewN q).trans' h3).setCell (p := ⟨w.heap.size, 0, none⟩) (.inr (by simp)) _).setCell (p := ⟨w.heap.size + 1, 0, none⟩) (.inr (by simp)) _).setCell (p := ⟨w.heap.size + 1 + 1, 0, none⟩) (.inr (by simp; omega)) _

set_option maxRecDepth 100000 in
set_option maxHeartbeats 1000000 in
theorem Uint_in {w : World} (x : Value) (l : List UInt8) (k : Nat) (hx : Rds w x (bytesV l)) (hxw : ∀ b, rdBlock x = some b → b < w.heap.size) (hl : l.length ≤ 9223372036854775000) (hk : k ≤ l.length) :
    Calls Try.prog 27 #[x, .int .i64 k] w fun e w' => e = .returned (.tuple #[.int .u64 (rdUint l k).1, .int .i64 (rdUint l k).2.1, .int .i64 (rdUint l k).2.2]) ∧ Only (fun _ => False) w w' := by
  obtain ⟨A, n, c, rfl⟩ := rds_form hx
  have ho : Only (fun _ => False) w (uintW w A n c k) := ((((Only.refl _ w).alloc _).alloc _).alloc _).alloc _
  have hW := uintW_heap w A n c k
  have hD : Dec (uintW w A n c k) (w.heap.size + 1 + 1 + 1) (.slice A n c) k := hW.2.2.2
  have HX := hide (hx.only ho fun _ _ => id)
  have HB := hide (begin_ok hD HX.out (by omega) (by omega))
  have HU := hide (fun q => uint_any (w := (uintW w A n c k).drewN q) (g := w.heap.size + 1 + 1 + 1) hD (HX.out.only ((Only.refl (fun _ => False) _).drewN q) fun _ _ => id) (fun e => by have := hxw _ e; omega) hl hk)
  have hmf : ∀ (fn : Fn) (first cap : Array Value) (w : World), (Instr.makeFunc fn first cap).run Try.prog w = .ok (.func fn first cap) w := fun _ _ _ _ => rfl
  have HO := hide ho
  have HW := hide hW
  have HZ := hide (rdU_zero l k 10 0 0)
  obtain ⟨r, hr⟩ : ∃ r, rdUint l k = r := ⟨_, rfl⟩
  rw [hr] at HU ⊢
  have HZ : Hid (r.2.2 ≠ 0 → r.1 = 0 ∧ r.2.1 = 0) := by rw [← hr]; exact HZ.out
  clear hx hk hD ho hW hr hxw
  go_enter_defers Try.func27, Try.ntmps27
  go_wp2_with fail
  refine HB.out.mono ?_
  rintro e w2 ⟨⟨q, rfl⟩, rfl⟩
  go_wp2_with fail
  refine (HU.out q).mono ?_
  rintro e w2 ⟨hO2, hE⟩
  have O2 : Hid (Only (fun y => y = w.heap.size + 1 + 1 + 1) (uintW w A n c k) w2) := ((Only.refl _ _).drewN q).trans' hO2
  have O3 : Hid (Only (fun _ => False) w w2) := HO.out.trans O2.out fun y hy e => by omega
  clear hO2
  rcases hE with ⟨h0, rfl, hD2⟩ | ⟨h0, rfl⟩
  · obtain ⟨W1, W2, W3, W4⟩ := HW.out
    have c1 := cell_of_heap (O2.out.heap W1 (by omega)) 0
    have c2 := cell_of_heap (O2.out.heap W2 (by omega)) 0
    have c3 := cell_of_heap (O2.out.heap W3 (by omega)) 0
    have z1 := frozen_of_heap (O2.out.heap W1 (by omega)) 0
    have z2 := frozen_of_heap (O2.out.heap W2 (by omega)) 0
    have z3 := frozen_of_heap (O2.out.heap W3 (by omega)) 0
    have d1 := cell_of_heap hD2 1
    clear W1 W2 W3 W4 hD2
    obtain ⟨rn, rx, rc⟩ := r
    simp only at h0 d1 ⊢
    subst h0
    go_wp2
    go_region
    all_goals
      go_wp2
      refine leaves_cons (f := 68) (args := #[.pointer (some ⟨w.heap.size, 0, none⟩), .pointer (some ⟨w.heap.size + 1, 0, none⟩), .pointer (some ⟨w.heap.size + 1 + 1, 0, none⟩)]) (by simp) (by simp [go_sem]) ?_
      refine (catch_idle _ _ _ _).mono ?_
      rintro e u' w'' ⟨rfl, rfl, rfl⟩
      simp [Leaves, settle, results, Try.results27, go_sem, c1, c2, c3]
      have E := (((O3.out.setCell (p := ⟨w.heap.size, 0, none⟩) (.inr (by simp)) (.int .u64 rn)).setCell (p := ⟨w.heap.size, 0, none⟩) (.inr (by simp)) (.int .u64 rn)).setCell (p := ⟨w.heap.size + 1, 0, none⟩) (.inr (by simp)) (.int .i64 rx)).setCell (p := ⟨w.heap.size + 1 + 1, 0, none⟩) (.inr (by simp; omega)) (.int .i64 0)
      first
        | exact E
        | exact E.drew
        | trace_state
  · obtain ⟨W1, W2, W3, W4⟩ := HW.out
    have V1 := hide (O2.out.heap W1 (by omega))
    have V2 := hide (O2.out.heap W2 (by omega))
    have V3 := hide (O2.out.heap W3 (by omega))
    obtain ⟨z1, z2⟩ := HZ.out h0
    obtain ⟨rn, rx, rc⟩ := r
    simp only at z1 z2 h0 ⊢
    subst z1 z2
    clear W1 W2 W3 W4
    refine leaves_cons (f := 68) (args := #[.pointer (some ⟨w.heap.size, 0, none⟩), .pointer (some ⟨w.heap.size + 1, 0, none⟩), .pointer (some ⟨w.heap.size + 1 + 1, 0, none⟩)]) (by simp) (by simp [go_sem]) ?_
    refine (catch_panicking w.heap.size (w.heap.size + 1) (w.heap.size + 1 + 1) rc [] _ (.int .u64 0) (.int .i64 0) (.int .i64 0) 43 3 31 V1.out V2.out V3.out (by omega) (by omega) (by omega)).mono ?_
    rintro e u' w'' ⟨rfl, rfl, w3, h3, rfl⟩
    have c1 := cell_of_heap (h3.heap V1.out id) 0
    have c2 := cell_of_heap (h3.heap V2.out id) 0
    have c3 := cell_of_heap (h3.heap V3.out id) 0
    simp [Leaves, settle, results, Try.results27, go_sem, c1, c2, c3]
    exact (((O3.out.trans' h3).setCell (p := ⟨w.heap.size, 0, none⟩) (.inr (by simp)) _).setCell (p := ⟨w.heap.size + 1, 0, none⟩) (.inr (by simp)) _).setCell (p := ⟨w.heap.size + 1 + 1, 0, none⟩) (.inr (by simp; omega)) _

end Go.Proofs.Ytldhpbmcpmebaab.Cd
