/- codec.Int, Text, Value: the reading functions with their recover, walked. (printed by genread.py) -/
import Derived.Test.YtcedenhfchcgiaaRd02c
import Derived.Test.YtcedenhfchcgiaaCod02g
set_option linter.unusedVariables false
set_option linter.unusedSimpArgs false
namespace Go.Proofs.Ytcedenhfchcgiaa.Cd
open Go.RowKit

/-- The world at the decoder's first call. -/
def readW (w : World) (zs : Array Value) (t : TypeId) (A : Option Addr) (n c : Nat) (k : Int) : World :=
  ((((w.alloc (.cells zs t)).alloc (.cells #[.int .i64 0] 3)).alloc (.cells #[.int .i64 0] 29)).alloc (.cells #[.slice A n c, .int .i64 k] 88))
theorem readW_heap (w : World) (zs : Array Value) (t : TypeId) (A : Option Addr) (n c : Nat) (k : Int) :
    (readW w zs t A n c k).heap[w.heap.size]? = some (.cells zs t (0, 0)) ∧ (readW w zs t A n c k).heap[w.heap.size + 1]? = some (.cells #[.int .i64 0] 3 (0, 0)) ∧ (readW w zs t A n c k).heap[w.heap.size + 1 + 1]? = some (.cells #[.int .i64 0] 29 (0, 0)) ∧
    (readW w zs t A n c k).heap[w.heap.size + 1 + 1 + 1]? = some (.cells #[.slice A n c, .int .i64 k] 88 (0, 0)) := by
  unfold readW World.alloc
  simp only [Array.getElem?_push, Array.size_push]
  refine ⟨?_, ?_, ?_, ?_⟩
  · rw [if_neg (by omega), if_neg (by omega), if_neg (by omega), if_pos trivial]
  · rw [if_neg (by omega), if_neg (by omega), if_pos trivial]
  · rw [if_neg (by omega), if_pos trivial]
  · rw [if_pos trivial]
theorem readW_only (w : World) (zs : Array Value) (t : TypeId) (A : Option Addr) (n c : Nat) (k : Int) : Only (fun _ => False) w (readW w zs t A n c k) := ((((Only.refl _ w).alloc _).alloc _).alloc _).alloc _
/-- Three cells lie at block p. -/
def Three (w : World) (p : Nat) : Prop := ∃ a b c t, w.heap[p]? = some (.cells #[a, b, c] t (0, 0))
theorem Three.set {w : World} {p : Nat} (h : Three w p) (q i : Nat) (u : Value) : Three (w.setCell ⟨q, i, none⟩ u) p := by
  obtain ⟨a, b, c, t, h⟩ := h
  by_cases e : q = p
  · subst e
    rw [Three, heap_setCell_at h]
    by_cases h0 : i = 0
    · subst h0; exact ⟨u, b, c, t, rfl⟩
    · by_cases h1 : i = 1
      · subst h1; exact ⟨a, u, c, t, rfl⟩
      · by_cases h2 : i = 2
        · subst h2; exact ⟨a, b, u, t, rfl⟩
        · refine ⟨a, b, c, t, ?_⟩
          rw [Array.setIfInBounds, dif_neg (by simp; omega)]
  · exact ⟨a, b, c, t, ((Only.refl (fun y => y = q) w).setCell (p := ⟨q, i, none⟩) (.inl rfl) u).heap h fun e2 => e e2.symm⟩
theorem Three.drew {w : World} {p : Nat} (h : Three w p) : Three w.drew p := h
theorem Three.r0 {w : World} {p : Nat} (h : Three w p) (u : Value) : (w.setCell ⟨p, 0, none⟩ u).cell? ⟨p, 0, none⟩ = some u := by
  obtain ⟨a, b, c, t, h⟩ := h
  rw [cell_of_heap (heap_setCell_at h 0 u)]; rfl
theorem Three.r1 {w : World} {p : Nat} (h : Three w p) (u : Value) : (w.setCell ⟨p, 1, none⟩ u).cell? ⟨p, 1, none⟩ = some u := by
  obtain ⟨a, b, c, t, h⟩ := h
  rw [cell_of_heap (heap_setCell_at h 1 u)]; rfl
theorem Three.r2 {w : World} {p : Nat} (h : Three w p) (u : Value) : (w.setCell ⟨p, 2, none⟩ u).cell? ⟨p, 2, none⟩ = some u := by
  obtain ⟨a, b, c, t, h⟩ := h
  rw [cell_of_heap (heap_setCell_at h 2 u)]; rfl
/-- The world at the end of codec.Value. -/
def finW (W0 : World) (p q1 q2 : Nat) (u0 u1 u2 v x : Value) : World := (((((((W0.setCell ⟨p, 0, none⟩ u0).setCell ⟨p, 1, none⟩ u1).setCell ⟨p, 2, none⟩ u2).setCell ⟨p, 0, none⟩ u0).setCell ⟨p, 1, none⟩ u1).setCell ⟨p, 2, none⟩ u2).setCell ⟨q1, 0, none⟩ v).setCell ⟨q2, 0, none⟩ x
theorem only_one (w : World) (q i : Nat) (u : Value) : Only (fun y => y = q) w (w.setCell ⟨q, i, none⟩ u) := (Only.refl (fun y => y = q) w).setCell (p := ⟨q, i, none⟩) (.inl rfl) u
theorem finW_cells {W0 : World} {p q1 q2 : Nat} {a b c d e : Value} {t t1 t2 : TypeId} (u0 u1 u2 v x : Value) (h : W0.heap[p]? = some (.cells #[a, b, c] t (0, 0))) (h1 : W0.heap[q1]? = some (.cells #[d] t1 (0, 0))) (h2 : W0.heap[q2]? = some (.cells #[e] t2 (0, 0)))
    (n1 : p ≠ q1) (n2 : p ≠ q2) (n3 : q1 ≠ q2) :
    (finW W0 p q1 q2 u0 u1 u2 v x).cell? ⟨p, 0, none⟩ = some u0 ∧ (finW W0 p q1 q2 u0 u1 u2 v x).cell? ⟨p, 1, none⟩ = some u1 ∧ (finW W0 p q1 q2 u0 u1 u2 v x).cell? ⟨p, 2, none⟩ = some u2 ∧ (finW W0 p q1 q2 u0 u1 u2 v x).cell? ⟨q1, 0, none⟩ = some v ∧ (finW W0 p q1 q2 u0 u1 u2 v x).cell? ⟨q2, 0, none⟩ = some x ∧
    Only (fun y => y = p ∨ y = q1 ∨ y = q2) W0 (finW W0 p q1 q2 u0 u1 u2 v x) := by
  have o1 := ((only_set3 W0 p u0 u1 u2).trans' (only_set3 _ p u0 u1 u2))
  have a6 := heap_setCell_at (heap_setCell_at (heap_setCell_at (heap_setCell_at (heap_setCell_at (heap_setCell_at h 0 u0) 1 u1) 2 u2) 0 u0) 1 u1) 2 u2
  have k1 := heap_setCell_at (o1.heap h1 (fun e => n1 e.symm)) 0 v
  have k2 := heap_setCell_at ((only_one _ q1 0 v).heap (o1.heap h2 (fun e => n2 e.symm)) (fun e => n3 e.symm)) 0 x
  have a8 := (only_one _ q2 0 x).heap ((only_one _ q1 0 v).heap a6 n1) n2
  have k3 := (only_one _ q2 0 x).heap k1 n3
  refine ⟨?_, ?_, ?_, ?_, ?_, ?_⟩
  · exact (cell_of_heap a8 0).trans (by simp)
  · exact (cell_of_heap a8 1).trans (by simp)
  · exact (cell_of_heap a8 2).trans (by simp)
  · exact (cell_of_heap k3 0).trans (by simp)
  · exact (cell_of_heap k2 0).trans (by simp)
  · exact ((o1.mono fun y _ e => .inl e).trans' ((only_one _ q1 0 v).mono fun y _ e => .inr (.inl e))).trans' ((only_one _ q2 0 x).mono fun y _ e => .inr (.inr e))
theorem rdText_zero (l : List UInt8) (k most : Nat) (h : (rdText l k most).2.2 ≠ 0) : (rdText l k most).1 = ⟨#[]⟩ ∧ (rdText l k most).2.1 = 0 := by
  unfold rdText at h ⊢
  split
  · rename_i h1
    rw [if_pos h1] at h
    split
    · exact ⟨rfl, rfl⟩
    · rename_i h2
      rw [if_neg h2] at h
      split
      · exact ⟨rfl, rfl⟩
      · rename_i h3
        rw [if_neg h3] at h
        exact absurd rfl h
  · exact ⟨rfl, rfl⟩
theorem rdVal_zero (l : List UInt8) (k : Nat) (h : (rdVal l k).2.2 ≠ 0) : (rdVal l k).1 = vd0 ∧ (rdVal l k).2.1 = 0 := by
  unfold rdVal at h ⊢
  by_cases h0 : k < l.length
  · rw [dif_pos h0] at h ⊢
    by_cases h1 : l[k].toNat = 1 ∨ l[k].toNat = 2
    · rw [if_pos h1] at h; exact absurd rfl h
    · rw [if_neg h1] at h ⊢
      by_cases h3 : l[k].toNat = 3
      · rw [if_pos h3] at h ⊢
        by_cases h4 : k + 1 < l.length
        · rw [dif_pos h4] at h ⊢
          by_cases h5 : 1 < l[k + 1].toNat
          · rw [if_pos h5]; exact ⟨rfl, rfl⟩
          · rw [if_neg h5] at h; exact absurd rfl h
        · rw [dif_neg h4]; exact ⟨rfl, rfl⟩
      · rw [if_neg h3] at h ⊢
        by_cases h4 : l[k].toNat = 4
        · rw [if_pos h4] at h ⊢
          by_cases h5 : (rdUint l (k + 1)).2.2 = 0
          · rw [if_pos h5] at h; exact absurd rfl h
          · rw [if_neg h5]; exact ⟨rfl, rfl⟩
        · rw [if_neg h4] at h ⊢
          by_cases h5 : l[k].toNat = 5
          · rw [if_pos h5] at h ⊢
            by_cases h6 : (rdText l (k + 1) 64).2.2 = 0
            · rw [if_pos h6] at h; exact absurd rfl h
            · rw [if_neg h6]; exact ⟨rfl, rfl⟩
          · rw [if_neg h5]; exact ⟨rfl, rfl⟩
  · rw [dif_neg h0]; exact ⟨rfl, rfl⟩

theorem catch_idleText (p1 p2 p3 : Value) (w : World) :
    CallsD Try.prog 48 #[p1, p2, p3] .returning w fun e u' w' => e = .returned (.tuple #[]) ∧ u' = .returning ∧ w' = w := by
  refine callsD_of_wpS Try.func48 rfl fun c₀ cs hu => ?_
  apply wpS_seq
  apply wpS_region
  simp [wpOpsS, go_sem, recoverD, hu, Try.ntmps48, Exit.thenS]
  refine wpS_of_wp ?_
  go_wp2
  cases c₀
  simp_all [bodyPostS, results, Try.results48]

set_option maxRecDepth 100000 in
theorem catch_panickingText (g1 g2 g3 : Nat) (c : Int) (older : List PanicEntry) (w : World) (y0 x2 x3 : Value) (t1 t2 t3 : TypeId) (h1 : w.heap[g1]? = some (.cells #[y0] t1 (0, 0))) (h2 : w.heap[g2]? = some (.cells #[x2] t2 (0, 0))) (h3 : w.heap[g3]? = some (.cells #[x3] t3 (0, 0)))
    (n12 : g1 ≠ g2) (n13 : g1 ≠ g3) (n23 : g2 ≠ g3) :
    CallsD Try.prog 48 #[.pointer (some ⟨g1, 0, none⟩), .pointer (some ⟨g2, 0, none⟩), .pointer (some ⟨g3, 0, none⟩)] (.panicking ({ v := .iface 92 (.agg #[.int .i64 c]), recovered := false } :: older)) w fun e u' w' =>
      e = .returned (.tuple #[]) ∧ u' = .panicking ({ v := .iface 92 (.agg #[.int .i64 c]), recovered := true } :: older) ∧ ∃ w2, Only (fun _ => False) w w2 ∧ w' = ((w2.setCell ⟨g1, 0, none⟩ (.string ⟨#[]⟩)).setCell ⟨g2, 0, none⟩ (.int .i64 0)).setCell ⟨g3, 0, none⟩ (.int .i64 c) := by
  refine callsD_of_wpS Try.func48 rfl fun c₀ cs hu => ?_
  apply wpS_seq
  apply wpS_region
  simp [wpOpsS, go_sem, recoverD, hu, Try.ntmps48, Exit.thenS]
  refine wpS_of_wp ?_
  have HD := hide (fun w2 (ho : Only (fun _ => False) w w2) => (show (w2.cell? ⟨g1, 0, none⟩ = some y0 ∧ w2.cell? ⟨g2, 0, none⟩ = some x2 ∧ w2.cell? ⟨g3, 0, none⟩ = some x3) ∧ w2.frozen? ⟨g1, 0, none⟩ = false ∧ w2.frozen? ⟨g2, 0, none⟩ = false ∧ w2.frozen? ⟨g3, 0, none⟩ = false from
    ⟨⟨cell_of_heap (ho.heap h1 id) 0, cell_of_heap (ho.heap h2 id) 0, cell_of_heap (ho.heap h3 id) 0⟩, frozen_of_heap (ho.heap h1 id) 0, frozen_of_heap (ho.heap h2 id) 0, frozen_of_heap (ho.heap h3 id) 0⟩))
  have m12 := n12.symm
  have m13 := n13.symm
  have m23 := n23.symm
  clear h1 h2 h3
  go_wp2_with (go_at_call 49; refine (caught_any c _).mono ?_; rintro e w2 ⟨rfl, hO⟩; obtain ⟨⟨q1_0, q2, q3⟩, z1_0, z2, z3⟩ := HD.out _ hO; have HO := hide hO; clear hO)
  simp [bodyPostS, results, Try.results48]
  exact ⟨_, HO.out, rfl⟩

set_option maxRecDepth 100000 in
set_option maxHeartbeats 1000000 in
theorem Text_bad {w : World} (x : Value) (l : List UInt8) (k : Int) (most : Int) (hx : Rds w x (bytesV l)) (hl : l.length ≤ 9223372036854775000) (hk : k < 0 ∨ (l.length : Int) < k) :
    Calls Try.prog 44 #[x, .int .i64 k, .int .i64 most] w fun e w' => e = .returned (.tuple #[.string ⟨#[]⟩, .int .i64 0, .int .i64 1]) ∧ Only (fun _ => False) w w' := by
  obtain ⟨A, n, c, rfl⟩ := rds_form hx
  have ho := readW_only w #[.string ⟨#[]⟩] 9 A n c k
  have hW := readW_heap w #[.string ⟨#[]⟩] 9 A n c k
  have hD : Dec (readW w #[.string ⟨#[]⟩] 9 A n c k) (w.heap.size + 1 + 1 + 1) (.slice A n c) k := hW.2.2.2
  have HB := hide (begin_bad hD (hx.only ho fun _ _ => id) hk)
  have hmf : ∀ (fn : Fn) (first cap : Array Value) (w : World), (Instr.makeFunc fn first cap).run Try.prog w = .ok (.func fn first cap) w := fun _ _ _ _ => rfl
  have HO := hide ho
  have HW := hide hW
  clear hx hk hD ho hW
  go_enter_defers Try.func44, Try.ntmps44
  go_wp2_with fail
  refine HB.out.mono ?_
  rintro e w2 ⟨⟨q, rfl⟩, rfl⟩
  have V1 := hide ((HW.out.1 : ((readW w #[.string ⟨#[]⟩] 9 A n c k).drewN q).heap[w.heap.size]? = _))
  have V2 := hide ((HW.out.2.1 : ((readW w #[.string ⟨#[]⟩] 9 A n c k).drewN q).heap[w.heap.size + 1]? = _))
  have V3 := hide ((HW.out.2.2.1 : ((readW w #[.string ⟨#[]⟩] 9 A n c k).drewN q).heap[w.heap.size + 1 + 1]? = _))
  refine leaves_cons (f := 48) (args := #[.pointer (some ⟨w.heap.size, 0, none⟩), .pointer (some ⟨w.heap.size + 1, 0, none⟩), .pointer (some ⟨w.heap.size + 1 + 1, 0, none⟩)]) (by simp) (by simp [go_sem]) ?_
  refine (catch_panickingText w.heap.size (w.heap.size + 1) (w.heap.size + 1 + 1) 1 [] ((readW w #[.string ⟨#[]⟩] 9 A n c k).drewN q) (.string ⟨#[]⟩) (.int .i64 0) (.int .i64 0) 9 3 29 V1.out V2.out V3.out (by omega) (by omega) (by omega)).mono ?_
  rintro e u' w'' ⟨rfl, rfl, w3, h3, rfl⟩
  have c1_0 := cell_of_heap (h3.heap V1.out id) 0
  have c2 := cell_of_heap (h3.heap V2.out id) 0
  have c3 := cell_of_heap (h3.heap V3.out id) 0
  simp [Leaves, settle, results, Try.results44, go_sem, c1_0, c2, c3]
  have E := fun (a d e : Value) => (((((HO.out.drewN q).trans' h3).setCell (p := ⟨w.heap.size, 0, none⟩) (.inr (by simp)) a).setCell (p := ⟨w.heap.size + 1, 0, none⟩) (.inr (by simp)) d).setCell (p := ⟨w.heap.size + 1 + 1, 0, none⟩) (.inr (by simp; omega)) e)
  first
    | exact E _ _ _
    | exact ⟨rfl, E _ _ _⟩
    | exact ⟨by decide, E _ _ _⟩
    | trace_state

set_option maxRecDepth 100000 in
set_option maxHeartbeats 1000000 in
theorem Text_in {w : World} (x : Value) (l : List UInt8) (k : Nat) (hx : Rds w x (bytesV l)) (hxw : ∀ b, rdBlock x = some b → b < w.heap.size) (hl : l.length ≤ 9223372036854775000) (hk : k ≤ l.length) (most : Nat) (hm : most ≤ 9223372036854775807) :
    Calls Try.prog 44 #[x, .int .i64 k, .int .i64 most] w fun e w' => e = .returned (.tuple #[.string (rdText l k most).1, .int .i64 (rdText l k most).2.1, .int .i64 (rdText l k most).2.2]) ∧ Only (fun _ => False) w w' := by
  obtain ⟨A, n, c, rfl⟩ := rds_form hx
  have ho := readW_only w #[.string ⟨#[]⟩] 9 A n c k
  have hW := readW_heap w #[.string ⟨#[]⟩] 9 A n c k
  have hD : Dec (readW w #[.string ⟨#[]⟩] 9 A n c k) (w.heap.size + 1 + 1 + 1) (.slice A n c) k := hW.2.2.2
  have HX := hide (hx.only ho fun _ _ => id)
  have HB := hide (begin_ok hD HX.out (by omega) (by omega))
  have HU := hide (fun q => dtext_any (w := (readW w #[.string ⟨#[]⟩] 9 A n c k).drewN q) (g := w.heap.size + 1 + 1 + 1) hD (HX.out.only ((Only.refl (fun _ => False) _).drewN q) fun _ _ => id) (fun e => by have := hxw _ e; omega) hl hk most hm)
  have hmf : ∀ (fn : Fn) (first cap : Array Value) (w : World), (Instr.makeFunc fn first cap).run Try.prog w = .ok (.func fn first cap) w := fun _ _ _ _ => rfl
  have HO := hide ho
  have HW := hide hW
  have HZ := hide (rdText_zero l k most)
  obtain ⟨⟨rn, rx, rc⟩, hr⟩ : ∃ r, rdText l k most = r := ⟨_, rfl⟩
  have hr2 := hr
  rw [hr] at HU ⊢
  rw [hr2] at HZ
  clear hr2
  simp only at HZ
  clear hx hk hD ho hW hr hxw
  go_enter_defers Try.func44, Try.ntmps44
  go_wp2_with fail
  refine HB.out.mono ?_
  rintro e w2 ⟨⟨q, rfl⟩, rfl⟩
  go_wp2_with fail
  refine (HU.out q).mono ?_
  rintro e w2 ⟨hO2, hE⟩
  have O2 : Hid (Only (fun y => y = w.heap.size + 1 + 1 + 1) (readW w #[.string ⟨#[]⟩] 9 A n c k) w2) := ((Only.refl _ _).drewN q).trans' hO2
  have O3 : Hid (Only (fun _ => False) w w2) := HO.out.trans O2.out fun y hy e => by omega
  clear hO2
  obtain ⟨W1, W2, W3, W4⟩ := HW.out
  rcases hE with ⟨h0, rfl, hD2⟩ | ⟨h0, rfl⟩
  · try simp only at h0
    subst h0
    have c1_0 := cell_of_heap (O2.out.heap W1 (by omega)) 0
    have z1_0 := frozen_of_heap (O2.out.heap W1 (by omega)) 0
    have c2 := cell_of_heap (O2.out.heap W2 (by omega)) 0
    have c3 := cell_of_heap (O2.out.heap W3 (by omega)) 0
    have z2 := frozen_of_heap (O2.out.heap W2 (by omega)) 0
    have z3 := frozen_of_heap (O2.out.heap W3 (by omega)) 0
    have d1 := cell_of_heap hD2 1
    skip
    clear W1 W2 W3 W4 hD2
    skip
    go_wp2
    go_region
    all_goals
      go_wp2
      refine leaves_cons (f := 48) (args := #[.pointer (some ⟨w.heap.size, 0, none⟩), .pointer (some ⟨w.heap.size + 1, 0, none⟩), .pointer (some ⟨w.heap.size + 1 + 1, 0, none⟩)]) (by simp) (by simp [go_sem]) ?_
      refine (catch_idleText _ _ _ _).mono ?_
      rintro e u' w'' ⟨rfl, rfl, rfl⟩
      simp [Leaves, settle, results, Try.results44, go_sem, c1_0, c2, c3]
      have E := ((((O3.out.setCell (p := ⟨w.heap.size, 0, none⟩) (.inr (by simp)) (.string rn)).setCell (p := ⟨w.heap.size, 0, none⟩) (.inr (by simp)) (.string rn)).setCell (p := ⟨w.heap.size + 1, 0, none⟩) (.inr (by simp)) (.int .i64 rx)).setCell (p := ⟨w.heap.size + 1 + 1, 0, none⟩) (.inr (by simp; omega)) (.int .i64 0))
      first
        | exact E
        | exact E.drew
        | exact ⟨rfl, E⟩
        | exact ⟨rfl, E.drew⟩
        | trace_state
  · try simp only at h0
    have V1 := hide (O2.out.heap W1 (by omega))
    have V2 := hide (O2.out.heap W2 (by omega))
    have V3 := hide (O2.out.heap W3 (by omega))
    obtain ⟨z1, z2⟩ := HZ.out h0
    skip
    subst z1
    subst z2
    clear W1 W2 W3 W4
    refine leaves_cons (f := 48) (args := #[.pointer (some ⟨w.heap.size, 0, none⟩), .pointer (some ⟨w.heap.size + 1, 0, none⟩), .pointer (some ⟨w.heap.size + 1 + 1, 0, none⟩)]) (by simp) (by simp [go_sem]) ?_
    refine (catch_panickingText w.heap.size (w.heap.size + 1) (w.heap.size + 1 + 1) rc [] _ (.string ⟨#[]⟩) (.int .i64 0) (.int .i64 0) 9 3 29 V1.out V2.out V3.out (by omega) (by omega) (by omega)).mono ?_
    rintro e u' w'' ⟨rfl, rfl, w3, h3, rfl⟩
    have c1_0 := cell_of_heap (h3.heap V1.out id) 0
    have c2 := cell_of_heap (h3.heap V2.out id) 0
    have c3 := cell_of_heap (h3.heap V3.out id) 0
    simp [Leaves, settle, results, Try.results44, go_sem, c1_0, c2, c3]
    have E := fun (a d e : Value) => ((((O3.out.trans' h3).setCell (p := ⟨w.heap.size, 0, none⟩) (.inr (by simp)) a).setCell (p := ⟨w.heap.size + 1, 0, none⟩) (.inr (by simp)) d).setCell (p := ⟨w.heap.size + 1 + 1, 0, none⟩) (.inr (by simp; omega)) e)
    first
      | exact E _ _ _
      | exact ⟨rfl, E _ _ _⟩
      | exact ⟨by decide, E _ _ _⟩
      | trace_state

end Go.Proofs.Ytcedenhfchcgiaa.Cd

