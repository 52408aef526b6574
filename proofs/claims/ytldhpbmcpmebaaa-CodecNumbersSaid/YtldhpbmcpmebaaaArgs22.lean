/- How the arguments of the laws read: bytes, ints, calls. -/
import Derived.Test.YtldhpbmcpmebaaaCalls22
import Derived.ProofKit
import Derived.OpenShut
import Derived.ShutString
import Derived.Deep.Slices
set_option linter.unusedVariables false
set_option linter.unusedSimpArgs false
namespace Go.Proofs.Ytldhpbmcpmebaaa
open Go.ChangeShapes Go.WideShapes Go.ChangeAt Go.RowKit Go.Deep

section
variable {H : Type} {enc : TypeId × Value → H} {W : World} {sp : Nat → Bool} {held : Bool} {fuel : Nat}

def byteOf (z : Int) : UInt8 := UInt8.ofNat z.toNat
theorem byteOf_val {z : Int} (h : 0 ≤ z ∧ z ≤ 255) : ((byteOf z).toNat : Int) = z := by
  unfold byteOf
  rw [UInt8.toNat_ofNat_of_lt' (by show z.toNat < 256; omega)]
  omega

theorem cells_u8 : Try.prog.cellsOf 5 = 1 := by kernel_rfl
theorem cells_int : Try.prog.cellsOf 3 = 1 := by kernel_rfl
theorem cells_sl : Try.prog.cellsOf 33 = 1 := by kernel_rfl
theorem cells_call : Try.prog.cellsOf 51 = 5 := by kernel_rfl
theorem cells_ints : Try.prog.cellsOf 22 = 1 := by kernel_rfl

theorem rds_of_u8 {v : Value} {y : DataW H × List MemPlace} (h : DataW.trod enc Try.prog W 0 sp held fuel 33 [v] = some y) :
    ∃ l : List UInt8, Rds W v (bytesV l) ∧ ∀ k, rdBlock v = some k → k < W.heap.size := by
  rcases open_ints Try.underlying33 Try.underlying5 cells_u8 h with ⟨hcs, _⟩ | ⟨x, l, c, zs, hcs, _, hl, hm, hz, _, hcell, hwz⟩
  · simp at hcs
    subst hcs
    exact ⟨[], ⟨none, 0, rfl, Nat.le_refl _, by simp [maxLen], fun _ => rfl, (fun a h => by cases h), (fun a h => by cases h)⟩, fun k hk => by cases hk⟩
  · simp at hcs
    subst hcs
    have hzl : l ≤ zs.length := by rw [hz]; split <;> omega
    have hlen : ((zs.take l).map byteOf).length = l := by rw [List.length_map, List.length_take]; omega
    have hat : ∀ j, j < l → W.cell? (x.add j) = some (.int .u8 (zs.getD j 0)) := fun j hj => hcell j (by omega)
    have hspot : 0 < l → x.spot = none := fun h0 => by
      have h1 := hat 0 h0
      obtain ⟨b, o, s⟩ := x
      cases s with
      | none => rfl
      | some s =>
        simp only [Addr.add, if_true] at h1
        unfold World.cell? at h1
        split at h1 <;> simp at h1
    have hel : ∀ j, j < l → bytesV ((zs.take l).map byteOf) = bytesV ((zs.take l).map byteOf) ∧ (bytesV ((zs.take l).map byteOf))[j]? = some (.int .u8 (zs.getD j 0)) := fun j hj => by
      refine ⟨rfl, ?_⟩
      have hj2 : j < zs.length := by omega
      rw [bytesV_get _ j (by omega)]
      simp only [List.getElem_map, List.getElem_take]
      rw [byteOf_val (bounds_u8 (hwz _ (List.getElem_mem hj2)))]
      rw [List.getD_eq_getElem?_getD, List.getElem?_eq_getElem hj2]
      rfl
    refine ⟨(zs.take l).map byteOf, ⟨some x, c, by rw [bytesV_length, hlen], by rw [bytesV_length, hlen]; exact hl, hm, (fun h => by cases h), (fun a h h0 => ?_), fun a h j u hj => ?_⟩, fun k hk => ?_⟩
    · cases h
      rw [bytesV_length, hlen] at h0
      exact hspot h0
    · cases h
      have hjl : j < l := by have := (List.getElem?_eq_some_iff.1 hj).1; rw [bytesV_length, hlen] at this; exact this
      rw [(hel j hjl).2] at hj
      rw [← hj]
      exact hat j hjl
    · unfold rdBlock at hk
      simp only at hk
      split at hk
      · cases hk
      · injection hk with hk
        subst hk
        have h1 := World.block_lt_of_cell? W _ (hat 0 (by omega))
        simpa [Addr.add] using h1

theorem rds_of_ints {v : Value} {y : DataW H × List MemPlace} (h : DataW.trod enc Try.prog W 0 sp held fuel 22 [v] = some y) :
    ∃ l : List Int, Rds W v (intsV l) ∧ ∀ k, rdBlock v = some k → k < W.heap.size := by
  rcases open_ints Try.underlying22 Try.underlying3 cells_int h with ⟨hcs, _⟩ | ⟨x, l, c, zs, hcs, _, hl, hm, hz, _, hcell, hwz⟩
  · simp at hcs
    subst hcs
    exact ⟨[], ⟨none, 0, rfl, Nat.le_refl _, by simp [maxLen], fun _ => rfl, (fun a h => by cases h), (fun a h => by cases h)⟩, fun k hk => by cases hk⟩
  · simp at hcs
    subst hcs
    have hzl : l ≤ zs.length := by rw [hz]; split <;> omega
    have hlen : (zs.take l).length = l := by rw [List.length_take]; omega
    have hat : ∀ j, j < l → W.cell? (x.add j) = some (.int .i64 (zs.getD j 0)) := fun j hj => hcell j (by omega)
    have hspot : 0 < l → x.spot = none := fun h0 => by
      have h1 := hat 0 h0
      obtain ⟨b, o, s⟩ := x
      cases s with
      | none => rfl
      | some s =>
        simp only [Addr.add, if_true] at h1
        unfold World.cell? at h1
        split at h1 <;> simp at h1
    have hel : ∀ j, j < l → (intsV (zs.take l))[j]? = some (.int .i64 (zs.getD j 0)) := fun j hj => by
      have hj2 : j < zs.length := by omega
      rw [intsV_get _ j (by omega)]
      simp only [List.getElem_take]
      rw [List.getD_eq_getElem?_getD, List.getElem?_eq_getElem hj2]
      rfl
    refine ⟨zs.take l, ⟨some x, c, by rw [intsV_length, hlen], by rw [intsV_length, hlen]; exact hl, hm, (fun h => by cases h), (fun a h h0 => ?_), fun a h j u hj => ?_⟩, fun k hk => ?_⟩
    · cases h
      rw [intsV_length, hlen] at h0
      exact hspot h0
    · cases h
      have hjl : j < l := by have := (List.getElem?_eq_some_iff.1 hj).1; rw [intsV_length, hlen] at this; exact this
      rw [hel j hjl] at hj
      rw [← hj]
      exact hat j hjl
    · unfold rdBlock at hk
      simp only at hk
      split at hk
      · cases hk
      · injection hk with hk
        subst hk
        have h1 := World.block_lt_of_cell? W _ (hat 0 (by omega))
        simpa [Addr.add] using h1

set_option maxRecDepth 100000 in
/-- A call that lies in five cells. -/
theorem call_of_trod {cs : List Value} {y : DataW H × List MemPlace} (h : DataW.trod enc Try.prog W 0 sp held fuel 51 cs = some y) :
    ∃ (c : CallD) (vB vK : Value), cs = [.int .i64 c.kind, .int .i64 c.file, .int .i64 c.n, vB, vK] ∧ CallV W c vB vK (fun x => x < W.heap.size) ∧ c.n ≤ 9223372036854775807 := by
  obtain ⟨xs, n, _, _, hlen, hxl, hf⟩ := DataW.trod_struct Try.underlying51 h
  rw [cells_call] at hlen
  match cs, hlen with
  | [a0, a1, a2, a3, a4], _ =>
    have hx : ∀ i, i < 5 → ∃ y, xs[i]? = some y := fun i hi => ⟨xs[i]'(by rw [hxl]; exact hi), List.getElem?_eq_getElem _⟩
    have g0 : DataW.trod enc Try.prog W 0 sp held n 3 ([a0, a1, a2, a3, a4].drop 0 |>.take (Try.prog.cellsOf 3)) = xs[0]? := hf 0 _ rfl
    have g1 : DataW.trod enc Try.prog W 0 sp held n 3 ([a0, a1, a2, a3, a4].drop 1 |>.take (Try.prog.cellsOf 3)) = xs[1]? := hf 1 _ rfl
    have g2 : DataW.trod enc Try.prog W 0 sp held n 3 ([a0, a1, a2, a3, a4].drop 2 |>.take (Try.prog.cellsOf 3)) = xs[2]? := hf 2 _ rfl
    have g3 : DataW.trod enc Try.prog W 0 sp held n 33 ([a0, a1, a2, a3, a4].drop 3 |>.take (Try.prog.cellsOf 33)) = xs[3]? := hf 3 _ rfl
    have g4 : DataW.trod enc Try.prog W 0 sp held n 22 ([a0, a1, a2, a3, a4].drop 4 |>.take (Try.prog.cellsOf 22)) = xs[4]? := hf 4 _ rfl
    rw [cells_int] at g0 g1 g2
    rw [cells_sl] at g3
    rw [cells_ints] at g4
    obtain ⟨y0, h0⟩ := hx 0 (by omega)
    obtain ⟨y1, h1⟩ := hx 1 (by omega)
    obtain ⟨y2, h2⟩ := hx 2 (by omega)
    obtain ⟨y3, h3⟩ := hx 3 (by omega)
    obtain ⟨y4, h4⟩ := hx 4 (by omega)
    obtain ⟨n0, e0, -, -⟩ := DataW.trod_int Try.underlying3 (g0.trans h0)
    obtain ⟨n1, e1, -, -⟩ := DataW.trod_int Try.underlying3 (g1.trans h1)
    obtain ⟨n2, e2, -, w2⟩ := DataW.trod_int Try.underlying3 (g2.trans h2)
    obtain ⟨l3, r3, b3⟩ := rds_of_u8 (g3.trans h3)
    obtain ⟨l4, r4, b4⟩ := rds_of_ints (g4.trans h4)
    simp only [List.drop_zero, List.drop_succ_cons, List.take_succ_cons, List.take_zero, List.cons.injEq, and_true] at e0 e1 e2
    subst e0 e1 e2
    exact ⟨⟨n0, n1, n2, l3, l4⟩, a3, a4, rfl, ⟨r3, r4, b3, b4⟩, (bounds_i64 w2).2⟩

theorem choose_list {α β : Type} (n : Nat) (d : α) (f : α → Nat → Prop) (h : ∀ i, i < n → ∃ a, f a i) : ∃ l : List α, l.length = n ∧ ∀ i, i < n → f (l.getD i d) i := by
  induction n with
  | zero => exact ⟨[], rfl, fun i hi => by omega⟩
  | succ n ih =>
    obtain ⟨l, hl, hf⟩ := ih fun i hi => h i (by omega)
    obtain ⟨a, ha⟩ := h n (by omega)
    refine ⟨l ++ [a], by simp [hl], fun i hi => ?_⟩
    by_cases e : i = n
    · subst e
      rw [List.getD_eq_getElem?_getD, List.getElem?_append_right (by omega), hl]
      simpa using ha
    · rw [List.getD_eq_getElem?_getD, List.getElem?_append_left (by omega), ← List.getD_eq_getElem?_getD]
      exact hf i (by omega)

/-- An argument that is a list of calls. -/
theorem calls_of_trod {A : Option Addr} {len cap : Nat} {y : DataW H × List MemPlace} (h : DataW.trod enc Try.prog W 0 sp held fuel 48 [.slice A len cap] = some y) :
    len ≤ cap ∧ ∃ cs : List CallD, RdCalls W A len cs (fun x => x < W.heap.size) := by
  rcases open_slice Try.underlying48 h with ⟨hcs, _⟩ | ⟨a, l, c, m, n, D, Pl, hcs, _, hl, hm, hmm, _, hi⟩
  · simp at hcs
    obtain ⟨rfl, rfl, rfl⟩ := hcs
    exact ⟨Nat.le_refl _, [], rfl, fun i hi => by cases hi⟩
  · simp at hcs
    obtain ⟨rfl, rfl, rfl⟩ := hcs
    refine ⟨hl, ?_⟩
    rw [cells_call] at hi
    have hml : len ≤ m := by rw [hmm]; split <;> omega
    have hb : ∀ i, i < len → ∃ c : CallD, ∃ b o vB vK, some a = some ⟨b, o, none⟩ ∧ b < W.heap.size ∧
        W.cell? ⟨b, o + i * 5, none⟩ = some (.int .i64 c.kind) ∧ W.cell? ⟨b, o + i * 5 + 1, none⟩ = some (.int .i64 c.file) ∧ W.cell? ⟨b, o + i * 5 + 2, none⟩ = some (.int .i64 c.n) ∧
        W.cell? ⟨b, o + i * 5 + 3, none⟩ = some vB ∧ W.cell? ⟨b, o + i * 5 + 4, none⟩ = some vK ∧ CallV W c vB vK (fun x => x < W.heap.size) ∧ c.n ≤ 9223372036854775807 := by
      intro i hil
      obtain ⟨cs', hc, ht⟩ := hi i (by omega)
      obtain ⟨c, vB, vK, rfl, hv, hn⟩ := call_of_trod ht
      obtain ⟨_, _, hat⟩ := World.cells?_some hc
      have h0 := hat 0 (by omega)
      have h1 := hat 1 (by omega)
      have h2 := hat 2 (by omega)
      have h3 := hat 3 (by omega)
      have h4 := hat 4 (by omega)
      have hsp : a.spot = none := by
        obtain ⟨cs0, hc0, ht0⟩ := hi 0 (by omega)
        obtain ⟨c0, vB0, vK0, rfl, -, -⟩ := call_of_trod ht0
        obtain ⟨_, _, hat0⟩ := World.cells?_some hc0
        have h00 := hat0 0 (by omega)
        obtain ⟨b, o, s⟩ := a
        cases s with
        | none => rfl
        | some s =>
          simp only [Nat.zero_mul, Addr.add, if_true] at h00
          unfold World.cell? at h00
          split at h00 <;> simp at h00
      have ha : ∀ j, (a.add (i * 5)).add j = ⟨a.block, a.off + i * 5 + j, none⟩ := fun j => by
        rw [addr_eta a hsp]
        exact addr_eta _ rfl j
      rw [ha] at h0 h1 h2 h3 h4
      obtain ⟨b, o, s⟩ := a
      simp only at hsp
      subst hsp
      exact ⟨c, b, o, vB, vK, rfl, World.block_lt_of_cell? W _ h0, h0, h1, h2, h3, h4, hv, hn⟩
    obtain ⟨cs, hlen, hf⟩ := choose_list (β := Unit) len ⟨0, 0, 0, [], []⟩ _ hb
    exact ⟨cs, hlen.symm, fun i hi => hf i (by omega)⟩
end
end Go.Proofs.Ytldhpbmcpmebaaa
