/- New and Copy. -/
import Derived.Test.YtldhpbmcpmebaaaDiskCrash
import Derived.Laws.Rows
set_option linter.unusedVariables false
set_option linter.unusedSimpArgs false
namespace Go.Proofs.Ytldhpbmcpmebaaa
open Go.RowKit

def DS.new (room : Nat) : DS := { room := room, data := fun _ => [], syn := fun _ => 0, plan := 0, off := false }
theorem new_at (w : World) (room : Nat) : DiskAt (w.alloc (.cells (diskArr (DS.new room) (fun _ => .slice none 0 0)) 82)) w.heap.size (DS.new room) (fun _ => .slice none 0 0) :=
  ⟨heap_alloc_new w _, fun i hi => World.ownsRow_nil _ _ _ _, fun i j _ _ _ => .inl rfl⟩

theorem new_any (w : World) (room : Int) (h0 : 0 ≤ room) (h1 : room ≤ 16777216) :
    Calls Try.prog 13 #[.int .i64 room] w fun e w' => e = .returned (.tuple #[.pointer (some ⟨w.heap.size, 0, none⟩), .int .i64 0]) ∧ w' = w.alloc (.cells (diskArr (DS.new room.toNat) (fun _ => .slice none 0 0)) 82) := by
  obtain ⟨n, rfl⟩ := Int.eq_ofNat_of_zero_le h0
  go_enter Try.func13, Try.ntmps13
  go_wp2
  go_ret2
  exact ⟨rfl, rfl⟩
theorem new_bad (w : World) (room : Int) (h : room < 0 ∨ 16777216 < room) :
    Calls Try.prog 13 #[.int .i64 room] w fun e w' => e = .returned (.tuple #[.pointer none, .int .i64 1]) ∧ w' = w := by
  rcases h with h | h
  · go_enter Try.func13, Try.ntmps13
    go_wp2
    go_ret2
    exact ⟨rfl, rfl⟩
  · have h2 : ¬ room < 0 := by omega
    go_enter Try.func13, Try.ntmps13
    go_wp2
    go_ret2
    exact ⟨rfl, rfl⟩

/-- The copy, its first k files being its own. -/
structure CopyTo (w : World) (d : DS) (V : Nat → Value) (g k : Nat) (V' : Nat → Value) (wr : World) : Prop where
  blk : wr.heap[g]? = some (.cells (diskArr d V') 82 (0, 0))
  own : ∀ i, i < k → wr.ownsRow 0 5 1 (V' i) (d.len i) (bytesV (d.data i))
  new : ∀ i, i < k → ∀ x, (V' i).ownBlock = some x → w.heap.size ≤ x
  apart : ∀ i j, i < k → j < k → i ≠ j → (V' i).ownBlock = none ∨ (V' i).ownBlock ≠ (V' j).ownBlock
  rest : ∀ i, k ≤ i → V' i = V i
  only : Only (fun _ => False) w wr
theorem CopyTo.next {w : World} {d : DS} {V : Nat → Value} {g k : Nat} {V' : Nat → Value} {wr w1 : World} (h : CopyTo w d V g k V' wr) (hk : k < 8) (hg : w.heap.size ≤ g) {v : Value} (hv : w1.ownsRow 0 5 1 v (d.len k) (bytesV (d.data k))) (hb : NewB wr v) (ho : Only (fun _ => False) wr w1) :
    CopyTo w d V g (k + 1) (upd V' k v) (w1.setCell ⟨g, 1 + k * 2, none⟩ v) := by
  have hb1 : w1.heap[g]? = some (.cells (diskArr d V') 82 (0, 0)) := ho.heap h.blk id
  have hlt : g < wr.heap.size := heap_lt h.blk
  have hvg : v.ownBlock ≠ some g := by
    rcases hb with e | ⟨x, e, hx⟩
    · rw [e]; simp
    · rw [e]; intro e2; injection e2 with e2; omega
  have hig : ∀ i, i < k → (V' i).ownBlock ≠ some g := fun i hi e => by
    obtain ⟨cur, hc⟩ := owns_block (h.own i hi) e
    rw [h.blk] at hc
    cases hc
  have hvi : ∀ i, i < k → v.ownBlock = none ∨ v.ownBlock ≠ (V' i).ownBlock := fun i hi => by
    rcases hb with e | ⟨x, e, hx⟩
    · exact .inl e
    · right
      rw [e]
      intro e2
      obtain ⟨cur, hc⟩ := owns_block (h.own i hi) e2.symm
      have := heap_lt hc
      omega
  refine ⟨?_, fun i hi => ?_, fun i hi x hx => ?_, fun i j hi hj hij => ?_, fun i hi => ?_, ?_⟩
  · rw [heap_setCell_at hb1, diskArr_set_data d V' hk]
  · by_cases e : i = k
    · subst e; rw [upd_same]; exact owns_setCell hv hvg _
    · rw [upd_ne _ _ e]
      exact owns_setCell (ho.owns (h.own i (by omega)) fun _ _ => id) (hig i (by omega)) _
  · by_cases e : i = k
    · subst e
      rw [upd_same] at hx
      rcases hb with e | ⟨y, e, hy⟩
      · rw [hx] at e; cases e
      · rw [hx] at e; cases e; exact Nat.le_trans h.only.size hy
    · rw [upd_ne _ _ e] at hx
      exact h.new i (by omega) x hx
  · by_cases ei : i = k
    · subst ei
      rw [upd_same, upd_ne _ _ (fun e => hij e.symm)]
      exact hvi j (by omega)
    · rw [upd_ne _ _ ei]
      by_cases ej : j = k
      · subst ej
        rw [upd_same]
        rcases hvi i (by omega) with e | e
        · rw [e]
          cases hV : (V' i).ownBlock with
          | none => exact .inl rfl
          | some x => exact .inr (by simp)
        · exact .inr fun e2 => e e2.symm
      · rw [upd_ne _ _ ej]
        exact h.apart i j (by omega) (by omega) hij
  · rw [upd_ne _ _ (by omega)]
    exact h.rest i (by omega)
  · have h2 : Only (fun _ => False) w w1 := h.only.trans' ho
    exact h2.setCell (.inr hg) _

theorem setRow_alloc (w : World) (zs cs : Array Value) (t : TypeId) : (w.alloc (.cells zs t)).setRow w.heap.size cs = w.alloc (.cells cs t) := by
  unfold World.setRow World.alloc
  simp only
  congr 1
  apply Array.ext_getElem?
  intro i
  rw [Array.getElem?_modify, Array.getElem?_push, Array.getElem?_push]
  by_cases h : i = w.heap.size
  · subst h; simp
  · rw [if_neg (by omega)]
    simp [h]
theorem store_whole {P : Program} (w : World) (zs cs : Array Value) (t : TypeId) (hsz : cs.size = zs.size) (h1 : ∀ v ∈ cs.toList, v.oneCell' = true) :
    (storeCells ⟨w.heap.size, 0, none⟩ cs.toList).run P (w.alloc (.cells zs t)) = .ok () (w.alloc (.cells cs t)) := by
  have h := run_storeCells_at P w.heap.size 0 t cs.toList 0 zs (w.alloc (.cells zs t)) (heap_alloc_new w _) (by simp; omega) h1
  rw [h]
  congr 1
  rw [← setRow_alloc w zs cs t]
  congr 1
  apply Array.ext'
  simp [hsz]

theorem diskArr_one {d : DS} {V : Nat → Value} (h : ∀ i, i < 8 → (V i).oneCell' = true) : ∀ v ∈ (diskArr d V).toList, v.oneCell' = true := by
  intro v hv
  simp only [diskArr, List.mem_cons, List.not_mem_nil, or_false] at hv
  rcases hv with rfl | rfl | rfl | rfl | rfl | rfl | rfl | rfl | rfl | rfl | rfl | rfl | rfl | rfl | rfl | rfl | rfl | rfl | rfl <;> first | rfl | exact h _ (by omega)

set_option maxRecDepth 100000 in
set_option maxHeartbeats 400000 in
theorem copy_at {w : World} {b : Nat} {d : DS} {V : Nat → Value} (h : DiskAt w b d V) (hok : d.Ok) :
    Calls Try.prog 39 #[.pointer (some ⟨b, 0, none⟩)] w fun e w' => e = .returned (.pointer (some ⟨w.heap.size, 0, none⟩)) ∧ ∃ V', CopyTo w d V w.heap.size 8 V' w' := by
  have hblk := h.blk
  have hi : (Try.prog.info? 82).map (·.size) = some (diskArr d V).size := by show _ = some 19; kernel_rfl
  have HB := hide hblk
  have HI := hide hi
  have H := hide h
  have HK := hide hok
  have h0 : CopyTo w d V w.heap.size 0 V (w.alloc (.cells (diskArr d V) 82)) :=
    ⟨heap_alloc_new w _, fun i hi => by omega, fun i hi => by omega, fun i j hi => by omega, fun i _ => rfl, (Only.refl _ w).alloc _⟩
  have H0 := hide h0
  have hst := fun zs hz => store_whole (P := Try.prog) w zs (diskArr d V) 82 hz (diskArr_one fun i hi => by obtain ⟨A, c, e⟩ := own_form (h.own i hi); rw [e]; rfl)
  have hst2 := hst #[.int .i64 0, .slice none 0 0, .int .i64 0, .slice none 0 0, .int .i64 0, .slice none 0 0, .int .i64 0, .slice none 0 0, .int .i64 0, .slice none 0 0, .int .i64 0, .slice none 0 0, .int .i64 0, .slice none 0 0, .int .i64 0, .slice none 0 0, .int .i64 0, .int .i64 0, .bool false] rfl
  clear hi h hok h0 hblk hst
  go_enter Try.func39, Try.ntmps39
  go_wp2_with (refine wpList_load_row rfl 82 (.tmp 6) rfl b rfl 82 (diskArr d V) (0, 0) _ HB.out Try.underlying82 rfl HI.out ?_)
  clear hst2
  go_loopw [8] (fun i wr => ∃ k : Nat, k ≤ 8 ∧ i = .int .i64 k ∧ ∃ V', CopyTo w d V w.heap.size k V' wr) (fun i _ => 8 - (intOf i).toNat)
  case atStart => exact ⟨0, by omega, rfl, V, H0⟩
  case round =>
    obtain ⟨k, hk, rfl, V', hC⟩ := hrel
    by_cases hlt : k < 8
    · have hV : V' k = V k := hC.rest k (Nat.le_refl _)
      obtain ⟨A, c, eV⟩ := own_form (H.out.own k hlt)
      have hrd : Rds wr (.slice A (d.len k) c) (bytesV (d.data k)) := by rw [← eV]; exact (H.out.rds hlt).only hC.only (fun _ _ => id)
      have hd : wr.cell? ⟨w.heap.size, 1 + k * 2, none⟩ = some (.slice A (d.len k) c) := by rw [cell_of_heap hC.blk, diskArr_data d V' hlt, hV, eV]
      have hf := frozen_of_heap hC.blk (1 + k * 2)
      have hcl := hide (clone_any wr _ (d.data k) hrd (by have := HK.out.len hlt; unfold lim47; unfold DS.len at this; omega))
      have HC := hide hC
      have HP := hide (show ∀ w1 : World, Only (fun _ => False) wr w1 → w1.cell? ⟨w.heap.size, 1 + k * 2, none⟩ = some (.slice A (d.len k) c) ∧ w1.frozen? ⟨w.heap.size, 1 + k * 2, none⟩ = false from fun w1 ho => ⟨ho.cell hd id, frozen_of_heap (ho.heap hC.blk id) _⟩)
      clear hC hV eV hrd
      go_wp2_with (go_at_call 53; refine hcl.out.mono ?_; rintro e w1 ⟨v, rfl, g1, g2, g3⟩; obtain ⟨A', n', c', rfl⟩ := own_form' g1; obtain ⟨p1, p2⟩ := HP.out w1 g3; have G1 := hide g1; have G2 := hide g2; have G3 := hide g3; clear g1 g2 g3)
      go_roundw
      case rel => exact ⟨k + 1, by omega, by go_num, _, HC.out.next hlt (Nat.le_refl _) G1.out G2.out G3.out⟩
      case measure => simp [intOf]; omega
    · obtain rfl : k = 8 := by omega
      have HC := hide hC
      clear hC
      go_wp2
      go_ret
      exact ⟨rfl, V', HC⟩

def CopyEnd (w : World) (d : DS) (e : Ending) (w' : World) : Prop :=
  ∃ S', e = .returned (.pointer (some ⟨w.heap.size, 0, none⟩)) ∧ DiskIn w' w.heap.size d S' ∧ (∀ k, S' k → w.heap.size ≤ k) ∧ Only (fun _ => False) w w'
theorem copy_any {w : World} {b : Nat} {d : DS} {S : Nat → Prop} (h : DiskIn w b d S) :
    Calls Try.prog 39 #[.pointer (some ⟨b, 0, none⟩)] w (CopyEnd w d) := by
  obtain ⟨hok, V, hA, hS⟩ := h
  refine (copy_at hA hok).mono ?_
  rintro e w' ⟨rfl, V', hC⟩
  refine ⟨dfoot w.heap.size V', rfl, ⟨hok, V', ⟨hC.blk, hC.own, hC.apart⟩, fun _ h => h⟩, ?_, hC.only⟩
  rintro k (hk | ⟨i, hi, hk⟩)
  · omega
  · exact hC.new i hi k hk

end Go.Proofs.Ytldhpbmcpmebaaa
