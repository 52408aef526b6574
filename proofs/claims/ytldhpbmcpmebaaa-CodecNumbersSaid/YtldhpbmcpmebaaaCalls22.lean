/- A list of calls, as it is read from an argument. -/
import Derived.Test.YtldhpbmcpmebaaaLaw22f
set_option linter.unusedVariables false
set_option linter.unusedSimpArgs false
namespace Go.Proofs.Ytldhpbmcpmebaaa
open Go.RowKit

/-- The value reads as the calls cs, within the blocks T. -/
structure RdCalls (w : World) (A : Option Addr) (n : Nat) (cs : List CallD) (T : Nat → Prop) : Prop where
  len : n = cs.length
  at_ : ∀ i, i < cs.length → ∃ b o vB vK, A = some ⟨b, o, none⟩ ∧ T b ∧
    w.cell? ⟨b, o + i * 5, none⟩ = some (.int .i64 (cs.getD i ⟨0, 0, 0, [], []⟩).kind) ∧
    w.cell? ⟨b, o + i * 5 + 1, none⟩ = some (.int .i64 (cs.getD i ⟨0, 0, 0, [], []⟩).file) ∧
    w.cell? ⟨b, o + i * 5 + 2, none⟩ = some (.int .i64 (cs.getD i ⟨0, 0, 0, [], []⟩).n) ∧
    w.cell? ⟨b, o + i * 5 + 3, none⟩ = some vB ∧ w.cell? ⟨b, o + i * 5 + 4, none⟩ = some vK ∧
    CallV w (cs.getD i ⟨0, 0, 0, [], []⟩) vB vK T ∧ (cs.getD i ⟨0, 0, 0, [], []⟩).n ≤ 9223372036854775807
theorem RdCalls.only {S T : Nat → Prop} {w w' : World} {A : Option Addr} {n : Nat} {cs : List CallD} (h : RdCalls w A n cs T) (ho : Only S w w') (hd : ∀ k, T k → ¬ S k) : RdCalls w' A n cs T := by
  refine ⟨h.len, fun i hi => ?_⟩
  obtain ⟨b, o, vB, vK, hA, hT, h1, h2, h3, h4, h5, h6, h7⟩ := h.at_ i hi
  exact ⟨b, o, vB, vK, hA, hT, ho.cell h1 (hd b hT), ho.cell h2 (hd b hT), ho.cell h3 (hd b hT), ho.cell h4 (hd b hT), ho.cell h5 (hd b hT), h6.only ho hd, h7⟩
theorem RdCalls.take {w : World} {A : Option Addr} {n : Nat} {cs : List CallD} {T : Nat → Prop} (h : RdCalls w A n cs T) (m : Nat) (hm : m = min n 200) : RdCalls w A m (cs.take 200) T := by
  have hl := h.len
  refine ⟨by rw [List.length_take]; omega, fun i hi => ?_⟩
  rw [List.length_take] at hi
  have e : (cs.take 200).getD i ⟨0, 0, 0, [], []⟩ = cs.getD i ⟨0, 0, 0, [], []⟩ := by
    rw [List.getD_eq_getElem?_getD, List.getElem?_take_of_lt (by omega), ← List.getD_eq_getElem?_getD]
  rw [e]
  exact h.at_ i (by omega)

/-- A list of calls carried out, one after another. -/
def DS.plays (d : DS) : List CallD → DS
  | [] => d
  | c :: r => (d.play c).1.plays r
theorem plays_append (d : DS) (a b : List CallD) : d.plays (a ++ b) = (d.plays a).plays b := by
  induction a generalizing d with
  | nil => rfl
  | cons c a ih => exact ih _
theorem plays_take_succ (d : DS) (cs : List CallD) {k : Nat} (h : k < cs.length) : d.plays (cs.take (k + 1)) = ((d.plays (cs.take k)).play (cs.getD k ⟨0, 0, 0, [], []⟩)).1 := by
  rw [List.take_succ_eq_append_getElem h, plays_append, List.getD_eq_getElem?_getD, List.getElem?_eq_getElem h]
  rfl

/-- What play does with the call that stands in a box. -/
theorem play_box {w : World} {b : Nat} {d : DS} {S T : Nat → Prop} (h : Held w b d S) (c : CallD) (hcn : c.n ≤ 9223372036854775807) (vB vK : Value) (hc : CallV w c vB vK T) (hT : ∀ k, T k → ¬ S k) :
    Calls Try.prog 34 #[.pointer (some ⟨b, 0, none⟩), .agg #[.int .i64 c.kind, .int .i64 c.file, .int .i64 c.n, vB, vK]] w fun e w' =>
      ∃ b' S', e = .returned (.tuple #[.pointer (some ⟨b', 0, none⟩), .int .i64 (d.play c).2]) ∧ Held w' b' (d.play c).1 S' ∧ Stp S w w' S' ∧ (c.kind ≠ 7 → b' = b) := by
  refine (play_any h.disk h.lt c hcn vB vK hc hT).mono ?_
  rintro e w' ⟨b', S', he, hd, hl, hs, hk⟩
  exact ⟨b', S', he, ⟨hd, hl⟩, hs, hk⟩

theorem Held.only {w w' : World} {b : Nat} {d : DS} {S U : Nat → Prop} (h : Held w b d S) (ho : Only U w w') (hd : ∀ k, S k → ¬ U k) : Held w' b d S := by
  obtain ⟨⟨hok, V, hA, hS⟩, hl⟩ := h
  exact ⟨⟨hok, V, hA.only ho fun k hk => hd k (hS k hk), hS⟩, fun k hk => Nat.lt_of_lt_of_le (hl k hk) ho.size⟩


/-- The box in which a round keeps its call. -/
structure Box (w : World) (g : Nat) (c : CallD) (vB vK : Value) : Prop where
  c0 : w.cell? ⟨g, 0, none⟩ = some (.int .i64 c.kind)
  c1 : w.cell? ⟨g, 1, none⟩ = some (.int .i64 c.file)
  c2 : w.cell? ⟨g, 2, none⟩ = some (.int .i64 c.n)
  c3 : w.cell? ⟨g, 3, none⟩ = some vB
  c4 : w.cell? ⟨g, 4, none⟩ = some vK
theorem Box.new (w : World) (c : CallD) (vB vK : Value) : Box (w.alloc (.cells #[.int .i64 c.kind, .int .i64 c.file, .int .i64 c.n, vB, vK] 51)) w.heap.size c vB vK := by
  refine ⟨?_, ?_, ?_, ?_, ?_⟩ <;> rw [cell_of_heap (heap_alloc_new w _)] <;> rfl
theorem Box.only {S : Nat → Prop} {w w' : World} {g : Nat} {c : CallD} {vB vK : Value} (h : Box w g c vB vK) (ho : Only S w w') (hn : ¬ S g) : Box w' g c vB vK :=
  ⟨ho.cell h.c0 hn, ho.cell h.c1 hn, ho.cell h.c2 hn, ho.cell h.c3 hn, ho.cell h.c4 hn⟩

end Go.Proofs.Ytldhpbmcpmebaaa
