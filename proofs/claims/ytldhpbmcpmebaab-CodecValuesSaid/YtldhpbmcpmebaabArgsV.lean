/- How the arguments of the laws read: values and rows. -/
import Derived.Test.YtldhpbmcpmebaabArgsB
import Derived.Test.YtldhpbmcpmebaabRow02
set_option linter.unusedVariables false
set_option linter.unusedSimpArgs false
namespace Go.Proofs.Ytldhpbmcpmebaab
open Go.ChangeShapes Go.WideShapes Go.ChangeAt Go.RowKit Go.Deep

section
variable {H : Type} {enc : TypeId × Value → H} {W : World} {sp : Nat → Bool} {held : Bool} {fuel : Nat}

theorem cells_int : Try.prog.cellsOf 3 = 1 := by kernel_rfl
theorem cells_i64 : Try.prog.cellsOf 2 = 1 := by kernel_rfl
theorem cells_string : Try.prog.cellsOf 9 = 1 := by kernel_rfl
theorem cells_value : Try.prog.cellsOf 24 = 3 := by kernel_rfl

set_option maxRecDepth 100000 in
/-- A value that lies in three cells. -/
theorem value_of_trod {cs : List Value} {y : DataW H × List MemPlace} (h : DataW.trod enc Try.prog W 0 sp held fuel 24 cs = some y) :
    ∃ v : Cd.VD, cs = Cd.vdV v ∧ v.Fits := by
  obtain ⟨xs, n, _, _, hlen, hxl, hf⟩ := DataW.trod_struct Try.underlying24 h
  rw [cells_value] at hlen
  match cs, hlen with
  | [a0, a1, a2], _ =>
    have hx : ∀ i, i < 3 → ∃ y, xs[i]? = some y := fun i hi => ⟨xs[i]'(by rw [hxl]; exact hi), List.getElem?_eq_getElem _⟩
    have g0 : DataW.trod enc Try.prog W 0 sp held n 3 ([a0, a1, a2].drop 0 |>.take (Try.prog.cellsOf 3)) = xs[0]? := hf 0 _ rfl
    have g1 : DataW.trod enc Try.prog W 0 sp held n 2 ([a0, a1, a2].drop 1 |>.take (Try.prog.cellsOf 2)) = xs[1]? := hf 1 _ rfl
    have g2 : DataW.trod enc Try.prog W 0 sp held n 9 ([a0, a1, a2].drop 2 |>.take (Try.prog.cellsOf 9)) = xs[2]? := hf 2 _ rfl
    rw [cells_int] at g0
    rw [cells_i64] at g1
    rw [cells_string] at g2
    obtain ⟨y0, h0⟩ := hx 0 (by omega)
    obtain ⟨y1, h1⟩ := hx 1 (by omega)
    obtain ⟨y2, h2⟩ := hx 2 (by omega)
    obtain ⟨n0, e0, -, -⟩ := DataW.trod_int Try.underlying3 (g0.trans h0)
    obtain ⟨n1, e1, -, w1⟩ := DataW.trod_int Try.underlying2 (g1.trans h1)
    obtain ⟨s2, e2, -⟩ := DataW.trod_string Try.underlying9 (g2.trans h2)
    simp only [List.drop_zero, List.drop_succ_cons, List.take_succ_cons, List.take_zero, List.cons.injEq, and_true] at e0 e1 e2
    subst e0 e1 e2
    have hb := bounds_i64 w1
    exact ⟨⟨n0, n1, s2⟩, rfl, ⟨hb.1, hb.2⟩⟩

theorem choose_list {α β : Type} (n : Nat) (d : α) (f : α → Nat → Prop) (h : ∀ i, i < n → ∃ a, f a i) : ∃ l : List α, l.length = n ∧ ∀ i, i < n → f (l.getD i d) i := by
  induction n with
  | zero => exact ⟨[], rfl, fun i hi => by omega⟩
  | succ n ih =>
    obtain ⟨l, hl, hf⟩ := ih fun i hi => h i (by omega)
    obtain ⟨a, ha⟩ := h n (by omega)
    refine ⟨l ++ [a], by simp [hl], fun i hi => ?_⟩
    by_cases e : i = n
    · subst e
      rw [List.getD_eq_getElem?_getD, List.getElem?_append_right (by omega), hl]
      simpa using ha
    · rw [List.getD_eq_getElem?_getD, List.getElem?_append_left (by omega), ← List.getD_eq_getElem?_getD]
      exact hf i (by omega)

set_option maxRecDepth 100000 in
/-- An argument that is a row. -/
theorem row_of_trod {A : Option Addr} {len cap : Nat} {y : DataW H × List MemPlace} (h : DataW.trod enc Try.prog W 0 sp held fuel 26 [.slice A len cap] = some y) :
    len ≤ cap ∧ cap ≤ maxLen ∧ ∃ vs : List Cd.VD, Cd.RdRow W A len vs (fun x => x < W.heap.size) := by
  rcases open_slice Try.underlying26 h with ⟨hcs, _⟩ | ⟨a, l, c, m, n, D, Pl, hcs, hcm, hl, hm, hmm, _, hi⟩
  · simp at hcs
    obtain ⟨rfl, rfl, rfl⟩ := hcs
    exact ⟨Nat.le_refl _, by simp [maxLen], [], rfl, (fun i hi => by cases hi), fun i hi => by cases hi⟩
  · simp at hcs
    obtain ⟨rfl, rfl, rfl⟩ := hcs
    refine ⟨hl, hm, ?_⟩
    rw [cells_value] at hi
    have hml : len ≤ m := by rw [hmm]; split <;> omega
    have hb : ∀ i, i < len → ∃ v : Cd.VD, v.Fits ∧ ∃ b o, some a = some ⟨b, o, none⟩ ∧ b < W.heap.size ∧
        W.cell? ⟨b, o + i * 3, none⟩ = some (.int .i64 v.kind) ∧ W.cell? ⟨b, o + i * 3 + 1, none⟩ = some (.int .i64 v.n) ∧ W.cell? ⟨b, o + i * 3 + 2, none⟩ = some (.string v.s) := by
      intro i hil
      obtain ⟨cs', hc, ht⟩ := hi i (by omega)
      obtain ⟨v, rfl, hv⟩ := value_of_trod ht
      obtain ⟨_, _, hat⟩ := World.cells?_some hc
      have h0 := hat 0 (by simp [Cd.vdV])
      have h1 := hat 1 (by simp [Cd.vdV])
      have h2 := hat 2 (by simp [Cd.vdV])
      have hsp : a.spot = none := by
        obtain ⟨cs0, hc0, ht0⟩ := hi 0 (by omega)
        obtain ⟨v0, rfl, -⟩ := value_of_trod ht0
        obtain ⟨_, _, hat0⟩ := World.cells?_some hc0
        have h00 := hat0 0 (by simp [Cd.vdV])
        obtain ⟨b, o, s⟩ := a
        cases s with
        | none => rfl
        | some s =>
          simp only [Nat.zero_mul, Addr.add, if_true] at h00
          unfold World.cell? at h00
          split at h00 <;> simp [Cd.vdV] at h00
      have ha : ∀ j, (a.add (i * 3)).add j = ⟨a.block, a.off + i * 3 + j, none⟩ := fun j => by
        rw [addr_eta a hsp]
        exact addr_eta _ rfl j
      rw [ha] at h0 h1 h2
      obtain ⟨b, o, s⟩ := a
      simp only at hsp
      subst hsp
      exact ⟨v, hv, b, o, rfl, World.block_lt_of_cell? W _ h0, h0, h1, h2⟩
    obtain ⟨vs, hlen, hf⟩ := choose_list (β := Unit) len Cd.vd0 _ hb
    exact ⟨vs, hlen.symm, (fun i hi => (hf i (by omega)).2), fun i hi => (hf i (by omega)).1⟩
end
end Go.Proofs.Ytldhpbmcpmebaab
