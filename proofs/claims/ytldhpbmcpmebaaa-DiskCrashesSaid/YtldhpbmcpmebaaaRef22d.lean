/- The reference's disk: New and Copy, walked. -/
import Derived.Test.YtldhpbmcpmebaaaRef22b
set_option linter.unusedVariables false
set_option linter.unusedSimpArgs false
namespace Go.Proofs.Ytldhpbmcpmebaaa
open Go.RowKit

theorem refnew_any (w : World) (room : Int) (h0 : 0 ≤ room) (h1 : room ≤ 16777216) :
    Calls Try.prog 14 #[.int .i64 room] w fun e w' => e = .returned (.tuple #[.pointer (some ⟨w.heap.size, 0, none⟩), .int .i64 0]) ∧ w' = w.alloc (.cells (refArr (DS.new room.toNat) (fun _ => .slice none 0 0)) 85) := by
  obtain ⟨n, rfl⟩ := Int.eq_ofNat_of_zero_le h0
  go_enter Try.func14, Try.ntmps14
  go_wp2
  go_ret2
  exact ⟨rfl, rfl⟩
theorem refnew_at (w : World) (room : Nat) : RefAt (w.alloc (.cells (refArr (DS.new room) (fun _ => .slice none 0 0)) 85)) w.heap.size (DS.new room) (fun _ => .slice none 0 0) :=
  ⟨heap_alloc_new w _, fun i hi => rds_nil _, fun i hi e => by cases e⟩

/-- The copy, its first k files being its own. -/
structure RefCopy (w : World) (d : DS) (g k : Nat) (V : Nat → Value) (wr : World) : Prop where
  blk : wr.heap[g]? = some (.cells (refArr d V) 85 (0, 0))
  rds : ∀ i, i < k → Rds wr (V i) (bytesV (d.data i))
  new : ∀ i, i < k → ∀ x, rdBlock (V i) = some x → w.heap.size ≤ x ∧ x ≠ g
  only : Only (fun _ => False) w wr
theorem RefCopy.next {w : World} {d : DS} {g k : Nat} {V : Nat → Value} {wr w2 : World} {v : Value} (h : RefCopy w d g k V wr) (hk : k < 8) (hg : w.heap.size ≤ g) (F : Fresh wr w2 v (d.data k)) : RefCopy w d g (k + 1) (upd V k v) (w2.setCell ⟨g, 1 + k, none⟩ v) := by
  have hlt : g < wr.heap.size := heap_lt h.blk
  have hvg : rdBlock v ≠ some g := fun e => by have := F.new g (rdBlock_own e); omega
  refine ⟨?_, fun i hi => ?_, fun i hi x hx => ?_, ?_⟩
  · rw [heap_setCell_at (F.only.heap h.blk id), refArr_set_data d V hk]
  · by_cases e : i = k
    · subst e
      rw [upd_same]
      exact (Rds.own F.own).setCell hvg _ _
    · rw [upd_ne _ _ e]
      exact ((h.rds i (by omega)).only F.only fun _ _ => id).setCell (fun e => (h.new i (by omega) _ e).2 rfl) _ _
  · by_cases e : i = k
    · subst e
      rw [upd_same] at hx
      have := F.new x (rdBlock_own hx)
      exact ⟨Nat.le_trans h.only.size this, by omega⟩
    · rw [upd_ne _ _ e] at hx
      exact h.new i (by omega) x hx
  · exact (h.only.trans' F.only).setCell (p := ⟨g, 1 + k, none⟩) (.inr hg) _
theorem RefCopy.grow {w : World} {d : DS} {g k : Nat} {V : Nat → Value} {wr w2 : World} (h : RefCopy w d g k V wr) (ho : Only (fun _ => False) wr w2) : RefCopy w d g k V w2 :=
  ⟨ho.heap h.blk id, fun i hi => (h.rds i hi).only ho fun _ _ => id, h.new, h.only.trans' ho⟩

set_option maxRecDepth 100000 in
set_option maxHeartbeats 1000000 in
theorem ref_copy_at {w : World} {b : Nat} {d : DS} {V : Nat → Value} (h : RefAt w b d V) (hok : d.Ok) :
    Calls Try.prog 75 #[.pointer (some ⟨b, 0, none⟩)] w fun e w' => e = .returned (.pointer (some ⟨w.heap.size, 0, none⟩)) ∧ ∃ V', RefCopy w d w.heap.size 8 V' w' := by
  have c0 := h.cell_data (i := 0) (by omega)
  have c1 := h.cell_data (i := 1) (by omega)
  have c2 := h.cell_data (i := 2) (by omega)
  have c3 := h.cell_data (i := 3) (by omega)
  have c4 := h.cell_data (i := 4) (by omega)
  have c5 := h.cell_data (i := 5) (by omega)
  have c6 := h.cell_data (i := 6) (by omega)
  have c7 := h.cell_data (i := 7) (by omega)
  have s0 := h.cell_syn (i := 0) (by omega)
  have s1 := h.cell_syn (i := 1) (by omega)
  have s2 := h.cell_syn (i := 2) (by omega)
  have s3 := h.cell_syn (i := 3) (by omega)
  have s4 := h.cell_syn (i := 4) (by omega)
  have s5 := h.cell_syn (i := 5) (by omega)
  have s6 := h.cell_syn (i := 6) (by omega)
  have s7 := h.cell_syn (i := 7) (by omega)
  have k1 := h.cell_room
  have k2 := h.cell_plan
  have k3 := h.cell_off
  have H := hide h
  have HK := hide hok
  clear h hok
  go_enter Try.func75, Try.ntmps75
  go_wp2
  go_region
  all_goals
    generalize hWe : (w.alloc (.cells #[.int .i64 d.room, .slice none 0 0, .slice none 0 0, .slice none 0 0, .slice none 0 0, .slice none 0 0, .slice none 0 0, .slice none 0 0, .slice none 0 0, .int .i64 (d.syn 0), .int .i64 (d.syn 1), .int .i64 (d.syn 2), .int .i64 (d.syn 3), .int .i64 (d.syn 4), .int .i64 (d.syn 5), .int .i64 (d.syn 6), .int .i64 (d.syn 7), .int .i64 d.plan, .bool d.off] 85)).drew = W at *
    have ho : Only (fun _ => False) w W := hWe ▸ ((Only.refl _ w).alloc _).drew
    have hb0 : RefCopy w d w.heap.size 0 (fun _ => .slice none 0 0) W := by
      rw [← hWe]
      exact ⟨heap_alloc_new w _, fun i hi => by omega, fun i hi => by omega, ((Only.refl _ w).alloc _).drew⟩
    have HB := hide hb0
    have HO := hide ho
    have c0' := ho.cell c0 id
    have c1' := ho.cell c1 id
    have c2' := ho.cell c2 id
    have c3' := ho.cell c3 id
    have c4' := ho.cell c4 id
    have c5' := ho.cell c5 id
    have c6' := ho.cell c6 id
    have c7' := ho.cell c7 id
    clear hb0 ho hWe
    go_wp2
    clear c0 c1 c2 c3 c4 c5 c6 c7 c0' c1' c2' c3' c4' c5' c6' c7' s0 s1 s2 s3 s4 s5 s6 s7 k1 k2 k3
    go_loopw [28] (fun i wr => ∃ k : Nat, k ≤ 8 ∧ i = .int .i64 k ∧ ∃ V', RefCopy w d w.heap.size k V' wr) (fun i _ => 8 - (intOf i).toNat)
    case atStart => exact ⟨0, by omega, rfl, _, HB⟩
    case round =>
      obtain ⟨k, hk, rfl, V', hC⟩ := hrel
      by_cases hlt : k < 8
      · obtain ⟨A, c, eV, -⟩ := H.out.data hlt
        have hix := fun W => idx8 V W hlt
        rw [eV] at hix
        have HD := hide (show ∀ w2 : World, Only (fun _ => False) wr w2 → w2.cell? ⟨w.heap.size, 1 + k, none⟩ = some (V' k) ∧ w2.frozen? ⟨w.heap.size, 1 + k, none⟩ = false from fun w2 ho => ⟨by rw [cell_of_heap (ho.heap hC.blk id), refArr_data d V' hlt], frozen_of_heap (ho.heap hC.blk id) _⟩)
        have hi' : (k : Int) < 8 := by omega
        have hl := hide (HK.out.len hlt)
        have hs1 := hide (show Src Try.prog 1 33 (.slice A (d.len k) c) _ (bytesV (d.data k)) (wr.alloc (.cells #[] 5)).drew from ((eV ▸ H.out.rds k hlt).only (hC.only.trans' ((Only.refl _ wr).alloc _).drew) (fun _ _ => id)).src Try.underlying33 (bytesV_one _))
        have HC := hide hC
        clear hC eV
        go_wp2
        go_region_law (refine step_app rfl _ _ 33 rfl (.slice (some ⟨wr.heap.size, 0, none⟩) 0 0) 0 [] rfl (made0d wr) _ rfl _ (d.data k) hs1.out (by have := hl.out; unfold DS.len at this; simp only [List.length_nil]; unfold lim47; omega) ?_; intro v1 w2 g1 g2 g3; have F1 := hide (fresh1 g1 g2 g3); obtain ⟨A1, n1, c1, rfl⟩ := own_form' g1; obtain ⟨p1, p2⟩ := HD.out w2 F1.out.only; clear g1 g2 g3)
        all_goals
          have HE := hide (HC.out.next hlt (Nat.le_refl _) F1.out)
          go_wp2
          go_roundw
          case rel => exact ⟨k + 1, by omega, by go_num, _, by first | exact HE.out | exact HE.out.grow (Only.refl _ _).drew⟩
          case measure => simp [intOf]; omega
      · obtain rfl : k = 8 := by omega
        have HC := hide hC
        clear hC
        go_wp2
        go_ret
        exact ⟨rfl, V', HC.out⟩

end Go.Proofs.Ytldhpbmcpmebaaa
