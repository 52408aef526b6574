/- Plain: where a file of records is cut off. And words for JournalTorn's walk. -/
import Derived.Test.YtcedenhfchcgiaaJn13
set_option linter.unusedVariables false
set_option linter.unusedSimpArgs false
namespace Go.Proofs.Ytcedenhfchcgiaa.Jn
open Go.RowKit Go.Shelf

theorem endAt_mono (recs : List (List UInt8)) {i j : Nat} (h : i ≤ j) : endAt recs i ≤ endAt recs j := by
  induction j with
  | zero => obtain rfl : i = 0 := by omega
            exact Nat.le_refl _
  | succ j ih =>
    by_cases e : i = j + 1
    · subst e; exact Nat.le_refl _
    · have h1 := ih (by omega)
      by_cases hj : j < recs.length
      · have := endAt_succ hj; omega
      · have : endAt recs (j + 1) = endAt recs j := by unfold endAt; rw [List.take_of_length_le (by omega), List.take_of_length_le (by omega)]
        omega
/-- Where the first n bytes of records end: K whole records, and a torn one. -/
structure Split (recs : List (List UInt8)) (n K : Nat) (rest : List UInt8) : Prop where
  le : K ≤ recs.length
  lo : endAt recs K ≤ n
  hi : K < recs.length → n < endAt recs (K + 1)
  eq : (framesB recs).take n = framesB (recs.take K) ++ rest
  torn : Torn rest
theorem split_ex {recs : List (List UInt8)} (hs : Small recs) (n : Nat) (hn : n ≤ (framesB recs).length) : ∃ K rest, Split recs n K rest := by
  have hex : ∃ K, K ≤ recs.length ∧ endAt recs K ≤ n ∧ (K < recs.length → n < endAt recs (K + 1)) := by
    have : ∀ m, m ≤ recs.length → (∃ K, K ≤ recs.length ∧ endAt recs K ≤ n ∧ (K < recs.length → n < endAt recs (K + 1))) ∨ endAt recs m ≤ n := by
      intro m
      induction m with
      | zero => exact fun _ => .inr (Nat.zero_le _)
      | succ m ih =>
        intro hm
        rcases ih (by omega) with h | h
        · exact .inl h
        · by_cases h2 : endAt recs (m + 1) ≤ n
          · exact .inr h2
          · exact .inl ⟨m, by omega, h, fun _ => by omega⟩
    rcases this recs.length (Nat.le_refl _) with h | h
    · exact h
    · exact ⟨recs.length, Nat.le_refl _, h, fun h => by omega⟩
  obtain ⟨K, h1, h2, h3⟩ := hex
  by_cases hK : K < recs.length
  · have hsp := frames_split hK
    have hlt := h3 hK
    rw [endAt_succ hK] at hlt
    refine ⟨K, (frameB (recs.getD K [])).take (n - endAt recs K), h1, h2, h3, ?_, recs.getD K [], n - endAt recs K, hs K hK, by omega, rfl⟩
    rw [hsp, List.take_append, List.take_append]
    have e1 : (framesB (recs.take K)).take n = framesB (recs.take K) := List.take_of_length_le h2
    have e2 : n - (framesB (recs.take K)).length - (frameB (recs.getD K [])).length = 0 := by
      have : (framesB (recs.take K)).length = endAt recs K := rfl
      omega
    rw [e1, e2, List.take_zero, List.append_nil]
    rfl
  · obtain rfl : K = recs.length := by omega
    rw [endAt_all] at h2
    obtain rfl : n = (framesB recs).length := by omega
    exact ⟨recs.length, [], h1, by rw [endAt_all]; exact Nat.le_refl _, h3, by rw [List.take_length, List.take_length, List.append_nil], torn_nil⟩

/-- The places behind the first records, a zero ahead, in a slice of one's own that was made since w. -/
structure EndsZ (w wr : World) (v : Value) (recs : List (List UInt8)) (k : Nat) : Prop where
  own : ∃ Es : List Value, wr.ownsRow 0 3 1 v (k + 1) Es ∧ ∀ i, i < k + 1 → Es[i]? = some (.int .i64 (endAt recs i))
  new : ∀ x, v.ownBlock = some x → w.heap.size ≤ x
theorem EndsZ.grow {w wr w2 : World} {v : Value} {recs : List (List UInt8)} {k : Nat} (h : EndsZ w wr v recs k) (ho : Only (fun _ => False) wr w2) : EndsZ w w2 v recs k := by
  obtain ⟨Es, h1, h2⟩ := h.own
  exact ⟨⟨Es, ho.owns h1 fun _ _ => id, h2⟩, h.new⟩
theorem EndsZ.start (w : World) (recs : List (List UInt8)) : EndsZ w (w.alloc (.cells #[.int .i64 0] 3)) (.slice (some ⟨w.heap.size, 0, none⟩) 1 1) recs 0 := by
  refine ⟨⟨[.int .i64 0], ⟨rfl, .inr ⟨w.heap.size, 1, #[.int .i64 0], rfl, Nat.zero_le _, heap_alloc_new w _, Nat.le_refl _, by simp [maxLen], by simp, by simp⟩⟩, fun i hi => ?_⟩, fun x hx => ?_⟩
  · obtain rfl : i = 0 := by omega
    rfl
  · cases hx
    exact Nat.le_refl _
theorem EndsZ.push {w wr w2 : World} {v v' : Value} {recs : List (List UInt8)} {k : Nat} {Es : List Value} {z : Int} (h : EndsZ w wr v recs k) (hE : wr.ownsRow 0 3 1 v (k + 1) Es) (hall : ∀ i, i < k + 1 → Es[i]? = some (.int .i64 (endAt recs i)))
    (hz : z = (endAt recs (k + 1) : Nat)) (hw : w.heap.size ≤ wr.heap.size)
    (g1 : w2.ownsRow 0 3 1 v' (k + 1 + 1) (Es ++ [.int .i64 z])) (g3 : v'.ownBlock = v.ownBlock ∨ ∃ x, v'.ownBlock = some x ∧ wr.heap.size ≤ x) : EndsZ w w2 v' recs (k + 1) := by
  have hl : Es.length = k + 1 := by have := hE.1; omega
  refine ⟨⟨_, g1, fun i hi => ?_⟩, fun x hx => ?_⟩
  · by_cases e : i < k + 1
    · rw [List.getElem?_append_left (by omega), hall i e]
    · obtain rfl : i = k + 1 := by omega
      rw [List.getElem?_append_right (by omega), hl, hz]
      simp
  · rcases g3 with e | ⟨y, e, hy⟩
    · exact h.new x (by rw [← e]; exact hx)
    · rw [hx] at e; injection e with e; omega
theorem EndsZ.cell {w wr : World} {A : Option Addr} {m c : Nat} {recs : List (List UInt8)} {k : Nat} (h : EndsZ w wr (.slice A m c) recs k) : m = k + 1 ∧ ∃ g, A = some ⟨g, 0, none⟩ ∧ ∀ i, i < k + 1 → wr.cell? ⟨g, i, none⟩ = some (.int .i64 (endAt recs i)) := by
  obtain ⟨Es, h1, h2⟩ := h.own
  refine ⟨Cd.own_n h1, ?_⟩
  rcases h1.2 with ⟨e, h9⟩ | ⟨g, cap, cur, hv, hb, hh, hnc, hc, hs, ht⟩
  · have := Cd.own_n h1; injection e with e1 e2 e3; omega
  · injection hv with e1 e2 e3
    subst e1
    refine ⟨g, rfl, fun i hi => ?_⟩
    have hc := h1.cells (g := g) rfl i _ (h2 i hi)
    rw [addr_eta _ rfl] at hc
    simpa using hc

/-- An append to a file of a calm disk. -/
theorem dAppend_any {w : World} {db f : Nat} {d : DS} {S : Nat → Prop} (D : DiskIn w db d S) (hlt : FootLt w S) (hc : Calm d) (hf : f < 8) (x : Value) (l : List UInt8) (hx : Rds w x (bytesV l)) (hxS : ∀ k, rdBlock x = some k → ¬ S k) (hl : l.length ≤ 1000000) (hu : d.used + l.length ≤ d.room) :
    Calls Try.prog 14 #[.pointer (some ⟨db, 0, none⟩), .int .i64 f, x] w fun e w' => e = .returned (.int .i64 0) ∧ ∃ S', DiskIn w' db (doAppend l d f) S' ∧ FootLt w' S' ∧ Only S w w' ∧ ∀ k, S' k → S k ∨ w.heap.size ≤ k := by
  refine (append_any D hlt f x l hx hxS (by unfold lim46; omega)).mono ?_
  rintro e w' ⟨he, S1, h1, h2⟩
  rw [append_calm hc hf hu] at he h1
  obtain ⟨S2, h3, h4, h5⟩ := h1.tight
  exact ⟨he, S2, h3, h4, h2.only, fun k hk => h2.foot k (h5 k hk)⟩

end Go.Proofs.Ytcedenhfchcgiaa.Jn
