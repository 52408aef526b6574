/- files, walked. -/
import Derived.Test.YtldhpbmcpmebaaaLaw22b
set_option linter.unusedVariables false
set_option linter.unusedSimpArgs false
namespace Go.Proofs.Ytldhpbmcpmebaaa
open Go.RowKit

/-- What files hands back: a list of its own. -/
def FilesEnd (w : World) (d : DS) (e : Ending) (w' : World) : Prop :=
  ∃ v T, e = .returned v ∧ RdFS w' v d.all T ∧ (∀ k, T k → w.heap.size ≤ k ∧ k < w'.heap.size) ∧ Only (fun _ => False) w w'

theorem FilesTo.end_ {w w0 : World} {d d2 : DS} {g : Nat} {V : Nat → Value} {v : Value} {vs : List Value} {wr : World} (h : FilesTo w0 d d2 g 8 V v vs wr) (h0 : Only (fun _ => False) w w0) : FilesEnd w d (.returned v) wr := by
  have hlen : vs.length = 8 := by have := h.own.1; omega
  refine ⟨v, fun k => w.heap.size ≤ k ∧ k < wr.heap.size, rfl, ⟨vs, Rds.own h.own, hlen, fun i hi => ?_, fun k hk => ?_, fun i hi k hk => ?_⟩, fun k hk => hk, h0.trans' h.only⟩
  · have h8 : i < 8 := hi
    rw [all_getD d h8]
    exact Rds.own (h.els i h8).1
  · obtain ⟨cur, hc⟩ := owns_block h.own hk
    exact ⟨Nat.le_trans h0.size (h.new k hk), heap_lt hc⟩
  · obtain ⟨cur, hc⟩ := owns_block (h.els i hi).1 hk
    exact ⟨Nat.le_trans h0.size ((h.els i hi).2 k hk), heap_lt hc⟩

theorem info_int : (Try.prog.info? 3).map (fun i => (i.zero, i.size, i.bytes)) = some (some (.int .i64 0), 1, 8) := by kernel_rfl
theorem run_make8 (w : World) : (Instr.makeSlice 22 (.int .i64 8) (.int .i64 8)).run Try.prog w = .ok (.slice (some ⟨w.heap.size, 0, none⟩) 8 8) (w.alloc (.cells (keepArr 0) 3)) := by
  obtain ⟨i0, hi, hz0, hz1, hz2⟩ := info_parts info_int
  have h := run_make (P := Try.prog) w 22 3 i0 (.int .i64 0) Try.underlying22 hi hz0 .i64 .i64 8 8 (by omega) (by omega) (by rw [hz2]; omega) (by omega)
  have e : madeCells #[Value.int .i64 0] 8 = keepArr 0 := by kernel_rfl
  rw [h, hz1, ← e]
  rfl

set_option maxRecDepth 100000 in
set_option maxHeartbeats 1000000 in
theorem files_any {w : World} {b : Nat} {d : DS} {S : Nat → Prop} (h : DiskIn w b d S) :
    Calls Try.prog 33 #[.pointer (some ⟨b, 0, none⟩)] w (FilesEnd w d) := by
  have HC := hide (copy_any h)
  have HOK := hide h.1
  clear h
  have hmk := run_make8
  go_enter Try.func33, Try.ntmps33
  go_wp2_with (go_at_call 39; refine HC.out.mono ?_; rintro e w1 ⟨S0, rfl, k0, k20, k3⟩; obtain ⟨S1, k1, k4, k5⟩ := k0.tight; have K1 := hide k1; have K2 := hide (show ∀ k, S1 k → w.heap.size ≤ k from fun k hk => k20 k (k5 k hk)); have K3 := hide k3; have K4 := hide k4; clear k1 k20 k3 k4 k5 k0)
  clear hmk
  have ho1 : Only (fun _ => False) w1 (w1.alloc (.cells (keepArr 8) 3)) := (Only.refl _ w1).alloc _
  have hD := hide (show DiskIn (w1.alloc (.cells (keepArr 8) 3)) w.heap.size d S1 from by
    obtain ⟨hok, V, hA, hS⟩ := K1.out
    exact ⟨hok, V, hA.only ho1 fun _ _ => id, hS⟩)
  have hO := hide (K3.out.trans' ho1)
  go_loopw [17] (fun i wr => ∃ k : Nat, k ≤ 8 ∧ i = .int .i64 k ∧ wr = w1.alloc (.cells (keepArr k) 3)) (fun i _ => 8 - (intOf i).toNat)
  case atStart => exact ⟨0, by omega, rfl, rfl⟩
  case round =>
    obtain ⟨k, hk, rfl, rfl⟩ := hrel
    by_cases hlt : k < 8
    · have hset := hide (show (w1.alloc (.cells (keepArr k) 3)).setCell ⟨w1.heap.size, k, none⟩ (.int .i64 16777216) = w1.alloc (.cells (keepArr (k + 1)) 3) from by rw [alloc_setCell, keepArr_set hlt])
      have hc : (keepArr k)[k]? = some (.int .i64 (if k < k then 16777216 else 0)) := keepArr_at k hlt
      go_wp2
      go_roundw
      case rel => exact ⟨k + 1, by omega, by go_num, by rw [keepArr_set hlt]⟩
      case measure => simp [intOf]; omega
    · obtain rfl : k = 8 := by omega
      have hx : Rds (w1.alloc (.cells (keepArr 8) 3)) (.slice (some ⟨w1.heap.size, 0, none⟩) 8 8) (intsV keepAll) := by
        refine ⟨_, 8, rfl, Nat.le_refl _, by simp [maxLen], (fun h => by cases h), (fun a h _ => by cases h; rfl), fun a h j u hj => ?_⟩
        cases h
        rw [addr_eta _ rfl]
        simp only [Nat.zero_add]
        rw [cell_of_heap (heap_alloc_new w1 _), keepArr_all 8 (Nat.le_refl _)]
        simpa using hj
      have hcr := hide (crash_any hD.out _ keepAll hx (fun k hk hs => by
        cases rdBlock_own hk
        exact Nat.lt_irrefl _ (K4.out _ hs)))
      clear hx
      go_wp2_with (go_at_call 36; refine hcr.out.mono ?_; rintro e w2 ⟨rfl, S2, k1, k2⟩; have L1 := hide k1; have L2 := hide k2; clear k1 k2)
      obtain ⟨hok2, V, hA, hS⟩ := L1.out
      have hF0 := hide (show FilesTo w2 d (d.crash keepAll) w.heap.size 0 V (.slice none 0 0) [] w2 from ⟨hA, World.ownsRow_nil _ _ _ _, (fun x hx => by cases hx), (fun i hi => by omega), Only.refl _ _⟩)
      have hw2 := hide (show Only (fun _ => False) w w2 from hO.out.trans (L2.out.only) fun x hx hs => absurd (K2.out x hs) (by omega))
      have hok2' := hide hok2
      clear hA hS hok2
      go_loopw [6, 7] (fun o i wr => ∃ (k : Nat) (vs : List Value), k ≤ 8 ∧ i = .int .i64 k ∧ FilesTo w2 d (d.crash keepAll) w.heap.size k V o vs wr) (fun _ i _ => 8 - (intOf i).toNat)
      case atStart => exact ⟨0, [], by omega, rfl, hF0⟩
      case round =>
        obtain ⟨k, vs, hk, rfl, hF⟩ := hrel
        by_cases hlt : k < 8
        · have hR := read_any hF.disk hok2'.out k
          have e1 : (d.crash keepAll).code k = 0 := by unfold DS.code; rw [if_neg (by simp [DS.crash]), if_neg (by omega)]
          rw [e1, if_pos rfl, Int.toNat_natCast, crash_all HOK.out hlt] at hR
          have HR := hide hR
          have HF := hide hF
          clear hR hF e1
          go_wp2_with (first
            | go_at_call 19; refine HR.out.mono ?_; rintro e w3 ⟨u, rfl, g1, g2, g3⟩; obtain ⟨A', n', c', rfl⟩ := own_form' g1; have G1 := hide g1; have G2 := hide g2; have G3 := hide g3; have GO := hide (((Only.refl (fun _ => False) w3).alloc (.cells #[.slice A' n' c'] 33)).owns (g3.owns HF.out.own (fun _ _ => id)) (fun _ _ => id)); have GA := hide (g3.alloc (.cells #[.slice A' n' c'] 33)); have GU := hide (((Only.refl (fun _ => False) w3).alloc (.cells #[.slice A' n' c'] 33)).owns g1 (fun _ _ => id)); clear g1 g2 g3
            | (at_builtin; refine wp_appF rfl _ _ rfl u6 k vs rfl GO.out w3.heap.size 1 _ rfl (cell_of_heap (heap_alloc_new w3 _) 0) rfl (by omega) ?_; intro v' w4 m1 m2 m3; obtain ⟨B', p', q', rfl⟩ := own_form' m1; have M := hide (HF.out.next GU.out G2.out GA.out m1 m2 m3); clear m1 m2 m3))
          go_roundw
          case rel => exact ⟨k + 1, _, by omega, by go_num, M⟩
          case measure => simp [intOf]; omega
        · obtain rfl : k = 8 := by omega
          have HF := hide hF
          clear hF
          go_wp2
          go_ret
          exact HF.out.end_ hw2.out

end Go.Proofs.Ytldhpbmcpmebaaa
