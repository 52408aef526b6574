/- What a plan does: the plain law behind DiskFails. -/
import Derived.Test.YtldhpbmcpmebaaaLaw22h
set_option linter.unusedVariables false
set_option linter.unusedSimpArgs false
namespace Go.Proofs.Ytldhpbmcpmebaaa
open Go.RowKit

def DS.with_ (d : DS) (p : Nat) (o : Bool) : DS := { d with plan := p, off := o }
/-- The four calls that go through gate. -/
structure ViaGate (d : DS) (c : CallD) (at_ : Int) (ec : Nat → Int) (f g : DS → Nat → DS) : Prop where
  eq : ∀ p o, (d.with_ p o).play c = (d.with_ p o).gate at_ ec f g
  comm : ∀ p o i, f (d.with_ p o) i = (f d i).with_ p o
  torn : ∀ i, (g (d.with_ 0 true) i).off = true ∧ (g (d.with_ 0 true) i).all = if c.kind = 1 then (f d i).all else d.all
  plan : ∀ d' i, (f d' i).plan = d'.plan ∧ (f d' i).off = d'.off
theorem same_with (d : DS) (p : Nat) (o : Bool) : SameFiles (d.with_ p o) d := ⟨rfl, rfl, rfl⟩
theorem fits_with (d : DS) (p : Nat) (o drop : Bool) (n : Nat) : (d.with_ p o).fits drop n = d.fits drop n := funext fun i => (same_with d p o).fits drop n i
theorem via_gate (d : DS) (c : CallD) (h1 : 1 ≤ c.kind) (h4 : c.kind ≤ 4) : ∃ at_ ec f g, ViaGate d c at_ ec f g := by
  have : c.kind = 1 ∨ c.kind = 2 ∨ c.kind = 3 ∨ c.kind = 4 := by omega
  rcases this with k | k | k | k
  · refine ⟨c.file, d.fits false (c.bs.take 2000).length, doAppend (c.bs.take 2000), doAppend (c.bs.take 2000), fun p o => ?_, fun _ _ _ => rfl, fun i => ⟨rfl, by rw [if_pos k]; rfl⟩, fun _ _ => ⟨rfl, rfl⟩⟩
    unfold DS.play
    rw [if_pos k]
    unfold DS.append
    rw [fits_with]
  · refine ⟨c.file, fun i => d.cut i c.n, doTruncate c.n.toNat, doNothing, fun p o => ?_, fun _ _ _ => rfl, fun i => ⟨rfl, by rw [if_neg (by omega)]; rfl⟩, fun _ _ => ⟨rfl, rfl⟩⟩
    unfold DS.play
    rw [if_neg (by omega), if_pos k]
    unfold DS.truncate
    have : (fun i => (d.with_ p o).cut i c.n) = fun i => d.cut i c.n := funext fun i => (same_with d p o).cut i c.n
    rw [this]
  · refine ⟨c.file, d.fits true (c.bs.take 2000).length, doReplace (c.bs.take 2000), doNothing, fun p o => ?_, fun _ _ _ => rfl, fun i => ⟨rfl, by rw [if_neg (by omega)]; rfl⟩, fun _ _ => ⟨rfl, rfl⟩⟩
    unfold DS.play
    rw [if_neg (by omega), if_neg (by omega), if_pos k]
    unfold DS.replace
    rw [fits_with]
  · refine ⟨c.file, fun _ => 0, doSync, doNothing, fun p o => ?_, fun _ _ _ => rfl, fun i => ⟨rfl, by rw [if_neg (by omega)]; rfl⟩, fun _ _ => ⟨rfl, rfl⟩⟩
    unfold DS.play
    rw [if_neg (by omega), if_neg (by omega), if_neg (by omega), if_pos k]
    rfl

/-- The disk that is off refuses. -/
theorem play_off {d : DS} {c : CallD} (h1 : 1 ≤ c.kind) (h4 : c.kind ≤ 4) (ho : d.off = true) : d.play c = (d, 220) := by
  obtain ⟨a, ec, f, g, hv⟩ := via_gate d c h1 h4
  have := hv.eq d.plan d.off
  rw [show d.with_ d.plan d.off = d from rfl] at this
  rw [this]
  unfold DS.gate
  rw [if_pos ho]

theorem fails_step {d : DS} {c : CallD} (h1 : 1 ≤ c.kind) (h4 : c.kind ≤ 4) (ho : d.off = false) (hp : d.plan = 0) (left : Nat) (hl : 1 ≤ left) :
    ((d.play c).2 ≠ 0 → (d.play c).1 = d ∧ (d.with_ left false).play c = (d.with_ left false, (d.play c).2)) ∧
    ((d.play c).2 = 0 → (d.play c).1.off = false ∧ (d.play c).1.plan = 0 ∧
      (left = 1 → ((d.with_ left false).play c).2 = 220 ∧ ((d.with_ left false).play c).1.off = true ∧ ((d.with_ left false).play c).1.all = if c.kind = 1 then (d.play c).1.all else d.all) ∧
      (left ≠ 1 → (d.with_ left false).play c = ((d.play c).1.with_ (left - 1) false, 0))) := by
  obtain ⟨a, ec, f, g, hv⟩ := via_gate d c h1 h4
  have e1 : d.play c = d.gate a ec f g := by
    have := hv.eq d.plan d.off
    rw [show d.with_ d.plan d.off = d from rfl] at this
    exact this
  have e2 := hv.eq left false
  rw [e1, e2]
  have n1 : ¬ d.off = true := by rw [ho]; decide
  have n2 : ¬ (d.with_ left false).off = true := by show ¬ false = true; decide
  unfold DS.gate
  rw [if_neg n1, if_neg n2]
  by_cases ha : a < 0 ∨ 8 ≤ a
  · rw [if_pos ha, if_pos ha]
    exact ⟨fun _ => ⟨rfl, rfl⟩, fun h => by cases h⟩
  · rw [if_neg ha, if_neg ha]
    by_cases he : ec a.toNat ≠ 0
    · rw [if_pos he, if_pos he]
      exact ⟨fun _ => ⟨rfl, rfl⟩, fun h => absurd h he⟩
    · rw [if_neg he, if_neg he, if_pos hp]
      rw [if_neg (show ¬ (d.with_ left false).plan = 0 by show ¬ left = 0; omega)]
      refine ⟨fun h => absurd rfl h, fun _ => ⟨by rw [(hv.plan d _).2]; exact ho, by rw [(hv.plan d _).1]; exact hp, fun h => ?_, fun h => ?_⟩⟩
      · rw [if_pos (show (d.with_ left false).plan = 1 from h)]
        exact ⟨rfl, hv.torn _⟩
      · rw [if_neg (show ¬ (d.with_ left false).plan = 1 from h)]
        show (f (d.with_ (left - 1) false) a.toNat, (0 : Int)) = _
        rw [hv.comm]

theorem fail_new (d : DS) (n : Nat) (ho : d.off = false) : d.fail n = d.with_ n false := by
  unfold DS.fail DS.with_
  rw [if_neg (by rw [ho]; decide), Int.toNat_natCast, ← ho]
theorem with_self {d : DS} (ho : d.off = false) (hp : d.plan = 0) : d.with_ 0 false = d := by
  unfold DS.with_
  rw [← ho, ← hp]

end Go.Proofs.Ytldhpbmcpmebaaa
