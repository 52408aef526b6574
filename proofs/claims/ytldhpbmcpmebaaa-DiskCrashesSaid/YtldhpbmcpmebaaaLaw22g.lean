/- DiskKeeps, walked. -/
import Derived.Test.YtldhpbmcpmebaaaCalls22
set_option linter.unusedVariables false
set_option linter.unusedSimpArgs false
namespace Go.Proofs.Ytldhpbmcpmebaaa
open Go.RowKit

/-- A disk that is on, has no plan, and whose bytes are those of d and all synced. -/
structure Calm (d d' : DS) : Prop where
  off : d'.off = false
  plan : d'.plan = 0
  data : ∀ i, i < 8 → d'.data i = d.data i
  syn : ∀ i, i < 8 → d'.syn i = d'.len i
theorem Calm.all {d d' : DS} (h : Calm d d') : d'.all = d.all := by
  unfold DS.all
  rw [h.data 0 (by omega), h.data 1 (by omega), h.data 2 (by omega), h.data 3 (by omega), h.data 4 (by omega), h.data 5 (by omega), h.data 6 (by omega), h.data 7 (by omega)]
theorem calm_crash {d : DS} (hok : d.Ok) : Calm d (d.crash keepAll) :=
  ⟨rfl, rfl, fun i hi => crash_all hok hi, fun i hi => by rw [(crash_len d hok keepAll hi).1, (crash_len d hok keepAll hi).2]⟩
theorem Calm.append {d d' : DS} (h : Calm d d') (hok : d'.Ok) {k : Nat} (hk : k < 8) : (d'.append k []).2 = 0 ∧ Calm d (d'.append k []).1 := by
  have hf : d'.fits false 0 k = 0 := by
    have := hok.used
    unfold DS.fits
    simp only [Bool.false_eq_true, if_false, Nat.sub_zero, Nat.add_zero]
    rw [if_neg (by omega)]
  have e : d'.append k [] = (doAppend [] d' k, 0) := by
    unfold DS.append DS.gate
    rw [if_neg (by rw [h.off]; decide), if_neg (by omega), Int.toNat_natCast]
    show (if d'.fits false 0 k ≠ 0 then _ else _) = _
    rw [hf, if_neg (by decide), if_pos h.plan]
  rw [e]
  refine ⟨rfl, h.off, h.plan, fun i hi => ?_, fun i hi => ?_⟩
  · show upd d'.data k (d'.data k ++ []) i = _
    rw [List.append_nil]
    unfold upd
    split
    · subst i; exact h.data k hk
    · exact h.data i hi
  · show d'.syn i = (doAppend [] d' k).len i
    unfold doAppend
    rw [len_upd, List.append_nil]
    split
    · subst i; exact h.syn k hk
    · exact h.syn i hi
theorem Calm.sync {d d' : DS} (h : Calm d d') {k : Nat} (hk : k < 8) : (d'.sync k).2 = 0 ∧ Calm d (d'.sync k).1 := by
  have e : d'.sync k = (doSync d' k, 0) := by
    unfold DS.sync DS.gate
    rw [if_neg (by rw [h.off]; decide), if_neg (by omega), Int.toNat_natCast, if_neg (by simp), if_pos h.plan]
  rw [e]
  refine ⟨rfl, h.off, h.plan, h.data, fun i hi => ?_⟩
  show upd d'.syn k (d'.len k) i = d'.len i
  unfold upd
  split
  · subst i; rfl
  · exact h.syn i hi
theorem Calm.crash {d d' : DS} (h : Calm d d') : Calm d (d'.crash []) := by
  have hl : ∀ i, i < 8 → d'.left [] i = d'.len i := fun i hi => by
    unfold DS.left
    rw [if_neg (by simp), h.syn i hi]
    rfl
  refine ⟨rfl, rfl, fun i hi => ?_, fun i hi => ?_⟩
  · unfold DS.crash DS.crashTo
    simp only [hi, if_true, hl i hi]
    rw [show d'.len i = (d'.data i).length from rfl, List.take_length]
    exact h.data i hi
  · unfold DS.crash DS.crashTo DS.len
    simp only [hi, if_true, hl i hi]
    rw [show d'.len i = (d'.data i).length from rfl, List.take_length]

theorem rds_nil (w : World) : Rds w (.slice none 0 0) [] := ⟨none, 0, rfl, Nat.le_refl _, by simp [maxLen], fun _ => rfl, (fun a h => by cases h), (fun a h => by cases h)⟩

/-- append of nil. -/
theorem append_nil {w : World} {b : Nat} {d : DS} {S : Nat → Prop} (h : Held w b d S) (at_ : Int) :
    Calls Try.prog 21 #[.pointer (some ⟨b, 0, none⟩), .int .i64 at_, .slice none 0 0] w fun e w' => e = .returned (.int .i64 (d.append at_ []).2) ∧ ∃ S', Held w' b (d.append at_ []).1 S' ∧ Stp S w w' S' := by
  refine (append_any h.disk h.lt at_ _ [] (rds_nil w) (fun k hk => by cases hk) (Nat.zero_le _)).mono ?_
  intro e w' he
  obtain ⟨rfl, S', hd, hl', hs⟩ := gate_tight he
  exact ⟨rfl, S', ⟨hd, hl'⟩, hs⟩
theorem sync_held {w : World} {b : Nat} {d : DS} {S : Nat → Prop} (h : Held w b d S) (at_ : Int) :
    Calls Try.prog 37 #[.pointer (some ⟨b, 0, none⟩), .int .i64 at_] w fun e w' => e = .returned (.int .i64 (d.sync at_).2) ∧ ∃ S', Held w' b (d.sync at_).1 S' ∧ Stp S w w' S' := by
  refine (sync_any h.disk at_).mono ?_
  intro e w' he
  obtain ⟨rfl, S', hd, hl', hs⟩ := gate_tight he
  exact ⟨rfl, S', ⟨hd, hl'⟩, hs⟩
theorem crash_held {w : World} {b : Nat} {d : DS} {S : Nat → Prop} (h : Held w b d S) (x : Value) (keep : List Int) (hx : Rds w x (intsV keep)) (hxS : ∀ k, rdBlock x = some k → ¬ S k) :
    Calls Try.prog 36 #[.pointer (some ⟨b, 0, none⟩), x] w fun e w' => e = .returned (.tuple #[]) ∧ ∃ S', Held w' b (d.crash keep) S' ∧ Stp S w w' S' := by
  refine (crash_any h.disk x keep hx hxS).mono ?_
  intro e w' he
  obtain ⟨rfl, S', hd, hl', hs⟩ := do_tight he
  exact ⟨rfl, S', ⟨hd, hl'⟩, hs⟩
/-- The reading of a list that files has made. -/
theorem files_held {w : World} {b : Nat} {d : DS} {S : Nat → Prop} (h : Held w b d S) :
    Calls Try.prog 33 #[.pointer (some ⟨b, 0, none⟩)] w fun e w' => ∃ A n c T, e = .returned (.slice A n c) ∧ RdFS w' (.slice A n c) d.all T ∧ (∀ k, T k → w.heap.size ≤ k ∧ k < w'.heap.size) ∧ Only (fun _ => False) w w' ∧ Held w' b d S := by
  refine (files_any h.disk).mono ?_
  rintro e w' ⟨v, T, rfl, h1, h2, h3⟩
  have h1' := h1
  obtain ⟨vs, q, -⟩ := h1
  obtain ⟨A, n, c, rfl⟩ := q.form
  exact ⟨A, n, c, T, rfl, h1', h2, h3, h.only h3 fun _ _ => id⟩
theorem rds_keepAll (w : World) : Rds (w.alloc (.cells (keepArr 8) 3)) (.slice (some ⟨w.heap.size, 0, none⟩) 8 8) (intsV keepAll) := by
  refine ⟨_, 8, rfl, Nat.le_refl _, by simp [maxLen], (fun h => by cases h), (fun a h _ => by cases h; rfl), fun a h j u hj => ?_⟩
  cases h
  rw [addr_eta _ rfl]
  simp only [Nat.zero_add]
  rw [cell_of_heap (heap_alloc_new w _), keepArr_all 8 (Nat.le_refl _)]
  simpa using hj

end Go.Proofs.Ytldhpbmcpmebaaa
