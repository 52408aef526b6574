/- How the arguments of the laws read: lists of records. -/
import Derived.Test.YtcedenhfchcgiaaArgsB
import Derived.Test.YtcedenhfchcgiaaJn13
set_option linter.unusedVariables false
set_option linter.unusedSimpArgs false
namespace Go.Proofs.Ytcedenhfchcgiaa
open Go.ChangeShapes Go.WideShapes Go.ChangeAt Go.RowKit Go.Deep

section
variable {H : Type} {enc : TypeId × Value → H} {W : World} {sp : Nat → Bool} {held : Bool} {fuel : Nat}

theorem cells_sl : Try.prog.cellsOf 23 = 1 := by kernel_rfl
set_option maxRecDepth 100000 in
/-- An argument that is a list of records. -/
theorem recs_of_trod {A : Option Addr} {len cap : Nat} {y : DataW H × List MemPlace} (h : DataW.trod enc Try.prog W 0 sp held fuel 22 [.slice A len cap] = some y) :
    len ≤ cap ∧ cap ≤ maxLen ∧ ∃ recs : List (List UInt8), Jn.RdRecs W A len recs (fun x => x < W.heap.size) := by
  rcases open_slice Try.underlying22 h with ⟨hcs, _⟩ | ⟨a, l, c, m, n, D, Pl, hcs, hcm, hl, hm, hmm, _, hi⟩
  · simp at hcs
    obtain ⟨rfl, rfl, rfl⟩ := hcs
    exact ⟨Nat.le_refl _, by simp [maxLen], [], rfl, fun i hi => by cases hi⟩
  · simp at hcs
    obtain ⟨rfl, rfl, rfl⟩ := hcs
    refine ⟨hl, hm, ?_⟩
    rw [cells_sl] at hi
    have hml : len ≤ m := by rw [hmm]; split <;> omega
    have one : ∀ i, i < m → ∃ V, W.cell? (a.add (i * 1)) = some V ∧ ∃ r : List UInt8, Rds W V (bytesV r) ∧ ∀ k, rdBlock V = some k → k < W.heap.size := by
      intro i hil
      obtain ⟨cs', hc, ht⟩ := hi i hil
      obtain ⟨hs, _, hat⟩ := World.cells?_some hc
      match cs', hs with
      | [V], _ =>
        have h0 := hat 0 (by simp)
        obtain ⟨r, hr, hb⟩ := rds_of_u8 ht
        refine ⟨V, ?_, r, hr, hb⟩
        have e : (a.add (i * 1)).add 0 = a.add (i * 1) := by
          generalize a.add (i * 1) = p
          obtain ⟨pb, po, sp⟩ := p
          cases sp <;> simp [Addr.add]
        rw [e] at h0
        simpa using h0
    have hsp : 0 < len → a.spot = none := fun h0 => by
      obtain ⟨V, hV, r, hr, -⟩ := one 0 (by omega)
      obtain ⟨A', c', e, -⟩ := hr
      subst e
      obtain ⟨b, o, s⟩ := a
      cases s with
      | none => rfl
      | some s =>
        simp only [Nat.zero_mul, Addr.add, if_true] at hV
        unfold World.cell? at hV
        split at hV <;> simp at hV
    have hb : ∀ i, i < len → ∃ r : List UInt8, ∃ b o V, some a = some ⟨b, o, none⟩ ∧ b < W.heap.size ∧ W.cell? ⟨b, o + i, none⟩ = some V ∧ Rds W V (bytesV r) ∧ ∀ k, rdBlock V = some k → k < W.heap.size := by
      intro i hil
      obtain ⟨V, hV, r, hr, hk⟩ := one i (by omega)
      have hs := hsp (by omega)
      rw [addr_eta a hs, Nat.mul_one] at hV
      obtain ⟨b, o, s⟩ := a
      simp only at hs hV
      subst hs
      exact ⟨r, b, o, V, rfl, World.block_lt_of_cell? W _ hV, hV, hr, hk⟩
    obtain ⟨recs, hlen, hf⟩ := Jn.choose_list (β := Unit) len ([] : List UInt8) _ hb
    exact ⟨recs, hlen.symm, fun i hi => hf i (by omega)⟩

end
end Go.Proofs.Ytcedenhfchcgiaa
