/- How the arguments of the laws read: bytes. -/
import Derived.Test.YtcedenhfchcgiaaBase
import Derived.Test.YtcedenhfchcgiaaProg
import Derived.ProofKit
import Derived.OpenShut
import Derived.ShutString
import Derived.Deep.Slices
set_option linter.unusedVariables false
set_option linter.unusedSimpArgs false
namespace Go.Proofs.Ytcedenhfchcgiaa
open Go.ChangeShapes Go.WideShapes Go.ChangeAt Go.RowKit Go.Deep

section
variable {H : Type} {enc : TypeId × Value → H} {W : World} {sp : Nat → Bool} {held : Bool} {fuel : Nat}

def byteOf (z : Int) : UInt8 := UInt8.ofNat z.toNat
theorem byteOf_val {z : Int} (h : 0 ≤ z ∧ z ≤ 255) : ((byteOf z).toNat : Int) = z := by
  unfold byteOf
  rw [UInt8.toNat_ofNat_of_lt' (by show z.toNat < 256; omega)]
  omega

theorem cells_u8 : Try.prog.cellsOf 5 = 1 := by kernel_rfl

theorem rds_of_u8 {v : Value} {y : DataW H × List MemPlace} (h : DataW.trod enc Try.prog W 0 sp held fuel 23 [v] = some y) :
    ∃ l : List UInt8, Rds W v (bytesV l) ∧ ∀ k, rdBlock v = some k → k < W.heap.size := by
  rcases open_ints Try.underlying23 Try.underlying5 cells_u8 h with ⟨hcs, _⟩ | ⟨x, l, c, zs, hcs, _, hl, hm, hz, _, hcell, hwz⟩
  · simp at hcs
    subst hcs
    exact ⟨[], ⟨none, 0, rfl, Nat.le_refl _, by simp [maxLen], fun _ => rfl, (fun a h => by cases h), (fun a h => by cases h)⟩, fun k hk => by cases hk⟩
  · simp at hcs
    subst hcs
    have hzl : l ≤ zs.length := by rw [hz]; split <;> omega
    have hlen : ((zs.take l).map byteOf).length = l := by rw [List.length_map, List.length_take]; omega
    have hat : ∀ j, j < l → W.cell? (x.add j) = some (.int .u8 (zs.getD j 0)) := fun j hj => hcell j (by omega)
    have hspot : 0 < l → x.spot = none := fun h0 => by
      have h1 := hat 0 h0
      obtain ⟨b, o, s⟩ := x
      cases s with
      | none => rfl
      | some s =>
        simp only [Addr.add, if_true] at h1
        unfold World.cell? at h1
        split at h1 <;> simp at h1
    have hel : ∀ j, j < l → bytesV ((zs.take l).map byteOf) = bytesV ((zs.take l).map byteOf) ∧ (bytesV ((zs.take l).map byteOf))[j]? = some (.int .u8 (zs.getD j 0)) := fun j hj => by
      refine ⟨rfl, ?_⟩
      have hj2 : j < zs.length := by omega
      rw [bytesV_get _ j (by omega)]
      simp only [List.getElem_map, List.getElem_take]
      rw [byteOf_val (bounds_u8 (hwz _ (List.getElem_mem hj2)))]
      rw [List.getD_eq_getElem?_getD, List.getElem?_eq_getElem hj2]
      rfl
    refine ⟨(zs.take l).map byteOf, ⟨some x, c, by rw [bytesV_length, hlen], by rw [bytesV_length, hlen]; exact hl, hm, (fun h => by cases h), (fun a h h0 => ?_), fun a h j u hj => ?_⟩, fun k hk => ?_⟩
    · cases h
      rw [bytesV_length, hlen] at h0
      exact hspot h0
    · cases h
      have hjl : j < l := by have := (List.getElem?_eq_some_iff.1 hj).1; rw [bytesV_length, hlen] at this; exact this
      rw [(hel j hjl).2] at hj
      rw [← hj]
      exact hat j hjl
    · unfold rdBlock at hk
      simp only at hk
      split at hk
      · cases hk
      · injection hk with hk
        subst hk
        have h1 := World.block_lt_of_cell? W _ (hat 0 (by omega))
        simpa [Addr.add] using h1

end
end Go.Proofs.Ytcedenhfchcgiaa
