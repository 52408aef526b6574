/- checkRow, AppendValue, AppendRow, walked. -/
import Derived.Test.YtcedenhfchcgiaaCod02d
set_option linter.unusedVariables false
set_option linter.unusedSimpArgs false
namespace Go.Proofs.Ytcedenhfchcgiaa.Cd
open Go.RowKit

def vd0 : VD := ⟨0, 0, ⟨#[]⟩⟩
/-- The value reads as the row vs, within the blocks T. -/
structure RdRow (w : World) (A : Option Addr) (n : Nat) (vs : List VD) (T : Nat → Prop) : Prop where
  len : n = vs.length
  at_ : ∀ i, i < vs.length → ∃ b o, A = some ⟨b, o, none⟩ ∧ T b ∧ w.cell? ⟨b, o + i * 3, none⟩ = some (.int .i64 (vs.getD i vd0).kind) ∧ w.cell? ⟨b, o + i * 3 + 1, none⟩ = some (.int .i64 (vs.getD i vd0).n) ∧ w.cell? ⟨b, o + i * 3 + 2, none⟩ = some (.string (vs.getD i vd0).s)
  fits : ∀ i, i < vs.length → (vs.getD i vd0).Fits
theorem RdRow.only {S T : Nat → Prop} {w w' : World} {A : Option Addr} {n : Nat} {vs : List VD} (h : RdRow w A n vs T) (ho : Only S w w') (hd : ∀ k, T k → ¬ S k) : RdRow w' A n vs T := by
  refine ⟨h.len, fun i hi => ?_, h.fits⟩
  obtain ⟨b, o, hA, hT, h1, h2, h3⟩ := h.at_ i hi
  exact ⟨b, o, hA, hT, ho.cell h1 (hd b hT), ho.cell h2 (hd b hT), ho.cell h3 (hd b hT)⟩
def rowCode (vs : List VD) : Int := if 12 < vs.length then 2 else if vs.all VD.valid then 0 else 10
def encRow (vs : List VD) : List UInt8 := leb vs.length ++ vs.flatMap enc

theorem all_take_succ (vs : List VD) {k : Nat} (hk : k < vs.length) : (vs.take (k + 1)).all VD.valid = ((vs.take k).all VD.valid && (vs.getD k vd0).valid) := by
  rw [List.take_succ_eq_append_getElem hk, List.all_append, List.getD_eq_getElem?_getD, List.getElem?_eq_getElem hk]
  simp
theorem all_getD {vs : List VD} (h : vs.all VD.valid = true) {k : Nat} (hk : k < vs.length) : (vs.getD k vd0).valid = true := by
  rw [List.getD_eq_getElem?_getD, List.getElem?_eq_getElem hk]
  exact List.all_eq_true.1 h _ (List.getElem_mem hk)

/-- A function that hands back bytes of its own, and a code. -/
def BytesCode (w : World) (l : List UInt8) (c : Int) (e : Ending) (w' : World) : Prop := ∃ v, e = .returned (.tuple #[v, .int .i64 c]) ∧ Fresh w w' v l

theorem flat_take_succ (vs : List VD) {k : Nat} (hk : k < vs.length) : (vs.take (k + 1)).flatMap enc = (vs.take k).flatMap enc ++ enc (vs.getD k vd0) := by
  rw [List.take_succ_eq_append_getElem hk, List.flatMap_append, List.getD_eq_getElem?_getD, List.getElem?_eq_getElem hk]
  simp
theorem flat_len {vs : List VD} (hv : vs.all VD.valid = true) (hf : ∀ i, i < vs.length → (vs.getD i vd0).Fits) : ∀ k, k ≤ vs.length → ((vs.take k).flatMap enc).length ≤ k * 75 := by
  intro k
  induction k with
  | zero => intro _; simp
  | succ k ih =>
    intro hk
    rw [flat_take_succ vs (by omega), List.length_append]
    have h1 := ih (by omega)
    have h2 := enc_len (all_getD hv (show k < vs.length by omega)) (hf k (by omega))
    omega

end Go.Proofs.Ytcedenhfchcgiaa.Cd
