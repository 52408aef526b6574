/- Journal files, plain: what Text reads at each place of whole records, and at a torn one. -/
import Derived.Test.YtcedenhfchcgiaaJn04
import Derived.Test.YtcedenhfchcgiaaRd02
set_option linter.unusedVariables false
set_option linter.unusedSimpArgs false
namespace Go.Proofs.Ytcedenhfchcgiaa.Jn
open Go.RowKit

/-- Each record is short enough for a journal. -/
def Small (recs : List (List UInt8)) : Prop := ∀ i, i < recs.length → (recs.getD i []).length ≤ 1048576
/-- The place behind the first k records. -/
def endAt (recs : List (List UInt8)) (k : Nat) : Nat := (framesB (recs.take k)).length

theorem getD_take {recs : List (List UInt8)} {k i : Nat} (h : i < k) : (recs.take k).getD i [] = recs.getD i [] := by
  rw [List.getD_eq_getElem?_getD, List.getElem?_take, if_pos h, ← List.getD_eq_getElem?_getD]
theorem getD_drop' {recs : List (List UInt8)} {k i : Nat} : (recs.drop k).getD i [] = recs.getD (k + i) [] := by
  rw [List.getD_eq_getElem?_getD, List.getElem?_drop, ← List.getD_eq_getElem?_getD]
theorem take_succ_recs {recs : List (List UInt8)} {k : Nat} (h : k < recs.length) : recs.take (k + 1) = recs.take k ++ [recs.getD k []] := by
  rw [List.take_succ_eq_append_getElem h, List.getD_eq_getElem?_getD, List.getElem?_eq_getElem h]
  rfl
theorem framesB_append (a b : List (List UInt8)) : framesB (a ++ b) = framesB a ++ framesB b := by simp [framesB]
theorem framesB_one (l : List UInt8) : framesB [l] = frameB l := by simp [framesB]
theorem frames_split {recs : List (List UInt8)} {k : Nat} (h : k < recs.length) : framesB recs = framesB (recs.take k) ++ (frameB (recs.getD k []) ++ framesB (recs.drop (k + 1))) := by
  conv => lhs; rw [← List.take_append_drop (k + 1) recs, take_succ_recs h]
  rw [framesB_append, framesB_append, framesB_one, List.append_assoc]
theorem endAt_zero (recs : List (List UInt8)) : endAt recs 0 = 0 := rfl
theorem endAt_succ {recs : List (List UInt8)} {k : Nat} (h : k < recs.length) : endAt recs (k + 1) = endAt recs k + (frameB (recs.getD k [])).length := by
  unfold endAt
  rw [take_succ_recs h, framesB_append, framesB_one, List.length_append]
theorem endAt_all (recs : List (List UInt8)) : endAt recs recs.length = (framesB recs).length := by
  unfold endAt; rw [List.take_length]
theorem frame_pos (l : List UInt8) : 0 < (frameB l).length := by
  unfold frameB; rw [List.length_append]; have := Cd.leb_pos l.length; omega
theorem endAt_lt {recs : List (List UInt8)} {k : Nat} (h : k < recs.length) (rest : List UInt8) : endAt recs k < (framesB recs ++ rest).length := by
  rw [frames_split h]
  unfold endAt
  rw [List.length_append, List.length_append, List.length_append]
  have := frame_pos (recs.getD k [])
  omega
theorem endAt_le (recs : List (List UInt8)) (rest : List UInt8) (k : Nat) (h : k ≤ recs.length) : endAt recs k ≤ (framesB recs ++ rest).length := by
  by_cases hk : k < recs.length
  · exact Nat.le_of_lt (endAt_lt hk rest)
  · obtain rfl : k = recs.length := by omega
    rw [endAt_all, List.length_append]; omega

theorem strOf_data' (l : List UInt8) : (Cd.strOf l).data.toList = l := by simp [Cd.strOf]
theorem text_at {recs : List (List UInt8)} {rest : List UInt8} {k : Nat} (hs : Small recs) (h : k < recs.length) :
    Cd.rdText (framesB recs ++ rest) (endAt recs k) 1048576 = (Cd.strOf (recs.getD k []), endAt recs (k + 1), 0) := by
  have hk := hs k h
  have := Cd.rdText_enc (l := framesB recs ++ rest) (t := framesB (recs.drop (k + 1)) ++ rest) (at_ := endAt recs k) (most := 1048576) (s := Cd.strOf (recs.getD k []))
    (by rw [Cd.strOf_size]; exact hk) (by rw [Cd.strOf_size]; omega)
    (by
      rw [Cd.strOf_size, strOf_data', frames_split h]
      unfold endAt
      rw [List.append_assoc, List.drop_left]
      unfold frameB
      simp only [List.append_assoc])
  rw [this, Cd.strOf_size, strOf_data', endAt_succ h]
  rfl

/-- What may be left of a record at a file's end: a proper beginning of its bytes. -/
def Torn (rest : List UInt8) : Prop := ∃ l m, l.length ≤ 1048576 ∧ m < (frameB l).length ∧ rest = (frameB l).take m
theorem text_torn {recs : List (List UInt8)} {rest : List UInt8} (h : Torn rest) : Cd.rdText (framesB recs ++ rest) (endAt recs recs.length) 1048576 = (⟨#[]⟩, 0, 20) := by
  obtain ⟨l, m, hl, hm, rfl⟩ := h
  refine Cd.rdText_cut (k := m) (s := Cd.strOf l) (by rw [Cd.strOf_size]; exact hl) (by rw [Cd.strOf_size]; omega) ?_ ?_
  · rw [Cd.strOf_size, strOf_data']; exact hm
  · rw [Cd.strOf_size, strOf_data', endAt_all, List.drop_left]; rfl
theorem leb_hit {n : Nat} (h : n < 2097152) : ∃ i, i < 3 ∧ i < (Cd.leb n).length ∧ ((Cd.leb n).getD i 0).toNat < 128 := by
  by_cases h1 : n < 128
  · refine ⟨0, by omega, ?_, ?_⟩ <;> rw [Cd.leb_small h1]
    · simp
    · simp; omega
  · by_cases h2 : n / 128 < 128
    · refine ⟨1, by omega, ?_, ?_⟩ <;> rw [Cd.leb_big h1, Cd.leb_small h2]
      · simp
      · simp; omega
    · have h3 : n / 128 / 128 < 128 := by omega
      refine ⟨2, by omega, ?_, ?_⟩ <;> rw [Cd.leb_big h1, Cd.leb_big h2, Cd.leb_small h3]
      · simp
      · simp; omega
theorem torn_hit {rest : List UInt8} (h : Torn rest) (h3 : 3 ≤ rest.length) : ∃ i, i < 3 ∧ (rest.getD i 0).toNat < 128 := by
  obtain ⟨l, m, hl, hm, rfl⟩ := h
  obtain ⟨i, hi, hil, hb⟩ := leb_hit (n := l.length) (by omega)
  refine ⟨i, hi, ?_⟩
  rw [List.length_take] at h3
  unfold frameB
  rw [List.getD_eq_getElem?_getD, List.getElem?_take, if_pos (by omega), List.getElem?_append_left hil, ← List.getD_eq_getElem?_getD]
  exact hb
theorem torn_len {rest : List UInt8} (h : Torn rest) : rest.length ≤ 1048586 := by
  obtain ⟨l, m, hl, hm, rfl⟩ := h
  have := frame_len hl
  rw [List.length_take]
  omega
theorem torn_nil : Torn [] := ⟨[], 0, by simp, frame_pos _, by simp⟩

end Go.Proofs.Ytcedenhfchcgiaa.Jn
