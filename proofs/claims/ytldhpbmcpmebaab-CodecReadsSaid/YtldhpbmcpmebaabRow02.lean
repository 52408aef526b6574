/- Rows that are owned: their cells, and append of a value onto them. -/
import Derived.Test.YtldhpbmcpmebaabCase02a
set_option linter.unusedVariables false
set_option linter.unusedSimpArgs false
namespace Go.Proofs.Ytldhpbmcpmebaab.Cd
open Go.RowKit

def vdV (v : VD) : List Value := [.int .i64 v.kind, .int .i64 v.n, .string v.s]
def rowV (vs : List VD) : List Value := vs.flatMap vdV
theorem rowV_nil : rowV [] = [] := rfl
theorem rowV_append (a b : List VD) : rowV (a ++ b) = rowV a ++ rowV b := List.flatMap_append
theorem rowV_one (v : VD) : rowV [v] = vdV v := by simp [rowV]
theorem rowV_len (vs : List VD) : (rowV vs).length = vs.length * 3 := by
  induction vs with
  | nil => rfl
  | cons v vs ih =>
    show (vdV v ++ rowV vs).length = _
    rw [List.length_append, ih, List.length_cons]
    simp [vdV]
    omega
theorem rowV_get (vs : List VD) : ∀ i, i < vs.length → (rowV vs)[i * 3]? = some (.int .i64 (vs.getD i vd0).kind) ∧ (rowV vs)[i * 3 + 1]? = some (.int .i64 (vs.getD i vd0).n) ∧ (rowV vs)[i * 3 + 2]? = some (.string (vs.getD i vd0).s) := by
  induction vs with
  | nil => intro i h; cases h
  | cons v vs ih =>
    intro i h
    have e : rowV (v :: vs) = vdV v ++ rowV vs := rfl
    rw [e]
    cases i with
    | zero => exact ⟨rfl, rfl, rfl⟩
    | succ i =>
      obtain ⟨h1, h2, h3⟩ := ih i (by simpa using h)
      have hl : (vdV v).length = 3 := rfl
      refine ⟨?_, ?_, ?_⟩
      · rw [List.getElem?_append_right (by omega), hl, show (i + 1) * 3 - 3 = i * 3 by omega]; exact h1
      · rw [List.getElem?_append_right (by omega), hl, show (i + 1) * 3 + 1 - 3 = i * 3 + 1 by omega]; exact h2
      · rw [List.getElem?_append_right (by omega), hl, show (i + 1) * 3 + 2 - 3 = i * 3 + 2 by omega]; exact h3
theorem rowV_cells (vs : List VD) : ∀ u ∈ rowV vs, u.oneCell' = true := by
  intro u hu
  obtain ⟨v, _, hv⟩ := List.mem_flatMap.1 hu
  simp [vdV] at hv
  rcases hv with rfl | rfl | rfl <;> rfl
theorem rdRow_own {w : World} {base : Nat} {A : Option Addr} {n m c : Nat} {vs : List VD} (h : w.ownsRow base 24 3 (.slice A m c) n (rowV vs)) (hf : ∀ i, i < vs.length → (vs.getD i vd0).Fits) :
    m = n ∧ RdRow w A n vs (fun k => (Value.slice A m c).ownBlock = some k) := by
  have hl : n = vs.length := by have := h.1; rw [rowV_len] at this; omega
  refine ⟨own_n h, hl, fun i hi => ?_, hf⟩
  rcases h.2 with ⟨h2, rfl⟩ | ⟨g, cap, cur, hv, hb, hh, hn, hc, hs, ht⟩
  · omega
  · injection hv with e1 e2 e3
    subst e1
    obtain ⟨g1, g2, g3⟩ := rowV_get vs i hi
    have hcell := fun j u hj => h.cells (g := g) rfl j u hj
    have k1 := hcell _ _ g1
    have k2 := hcell _ _ g2
    have k3 := hcell _ _ g3
    rw [addr_eta _ rfl] at k1 k2 k3
    exact ⟨g, 0, rfl, rfl, k1, by rw [Nat.add_assoc]; exact k2, by rw [Nat.add_assoc]; exact k3⟩
theorem info_val : (Try.prog.info? 24).map (fun i => (i.zero.map (fun z => z.cells.size), i.size, decide (i.bytes ≤ 64))) = some (some 3, 3, true) := by kernel_rfl

end Go.Proofs.Ytldhpbmcpmebaab.Cd
