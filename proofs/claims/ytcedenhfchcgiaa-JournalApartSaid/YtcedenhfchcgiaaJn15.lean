/- Two journals on one disk; bytes that are written in place. -/
import Derived.Test.YtcedenhfchcgiaaJn13
set_option linter.unusedVariables false
set_option linter.unusedSimpArgs false
namespace Go.Proofs.Ytcedenhfchcgiaa.Jn
open Go.RowKit Go.Shelf

/-- Two journals on one disk, all made since w0. -/
structure J2 (w0 w : World) (b1 b2 db : Nat) (ra rb : List (List UInt8)) (d : DS) (R1 R2 S : Nat → Prop) : Prop where
  j1 : JIn w b1 db 3 ra R1
  j2 : JIn w b2 db 4 rb R2
  disk : DiskIn w db d S
  low : FootLt w S
  d1 : ∀ k, R1 k → ¬ S k
  d2 : ∀ k, R2 k → ¬ S k
  d12 : ∀ k, R1 k → ¬ R2 k
  calm : Calm d
  new1 : ∀ k, R1 k → w0.heap.size ≤ k
  new2 : ∀ k, R2 k → w0.heap.size ≤ k
  newS : ∀ k, S k → w0.heap.size ≤ k
  only : Only (fun _ => False) w0 w
  data1 : d.data 3 = framesB ra
  data2 : d.data 4 = framesB rb
theorem J2.other {w0 w w' : World} {b1 b2 db : Nat} {ra rb : List (List UInt8)} {d : DS} {R1 R2 S U : Nat → Prop} (h : J2 w0 w b1 b2 db ra rb d R1 R2 S) (ho : Only U w w') (h1 : ∀ k, U k → ¬ R1 k ∧ ¬ R2 k ∧ ¬ S k ∧ w0.heap.size ≤ k) : J2 w0 w' b1 b2 db ra rb d R1 R2 S :=
  ⟨h.j1.only ho fun k hk hu => (h1 k hu).1 hk, h.j2.only ho fun k hk hu => (h1 k hu).2.1 hk, disk_keep h.disk ho fun k hk hu => (h1 k hu).2.2.1 hk, fun k hk => Nat.lt_of_lt_of_le (h.low k hk) ho.size, h.d1, h.d2, h.d12, h.calm, h.new1, h.new2, h.newS, h.only.trans ho fun x hx hu => by have := (h1 x hu).2.2.2; omega, h.data1, h.data2⟩
theorem J2.grow {w0 w w' : World} {b1 b2 db : Nat} {ra rb : List (List UInt8)} {d : DS} {R1 R2 S : Nat → Prop} (h : J2 w0 w b1 b2 db ra rb d R1 R2 S) (ho : Only (fun _ => False) w w') : J2 w0 w' b1 b2 db ra rb d R1 R2 S := h.other ho fun k hu => hu.elim
/-- How a change of one of the two ends. -/
def J2End (w0 w : World) (b1 b2 db : Nat) (ra rb : List (List UInt8)) (R1 R2 S : Nat → Prop) (room used : Nat) (e : Ending) (w' : World) : Prop :=
  e = .returned (.int .i64 0) ∧ ∃ (R1' R2' S' : Nat → Prop) (d' : DS), J2 w0 w' b1 b2 db ra rb d' R1' R2' S' ∧ d'.room = room ∧ d'.used ≤ used ∧ (∀ k, R1' k → R1 k ∨ w.heap.size ≤ k) ∧ (∀ k, R2' k → R2 k ∨ w.heap.size ≤ k) ∧ (∀ k, S' k → S k ∨ w.heap.size ≤ k) ∧ Only (fun k => R1 k ∨ R2 k ∨ S k) w w'
theorem J2.append1 {w0 w : World} {b1 b2 db : Nat} {ra rb : List (List UInt8)} {d : DS} {R1 R2 S : Nat → Prop} (h : J2 w0 w b1 b2 db ra rb d R1 R2 S) (x : Value) (l : List UInt8) (hx : Rds w x (bytesV l)) (hxS : ∀ k, rdBlock x = some k → ¬ S k ∧ ¬ R1 k) (hl : l.length ≤ 1048576)
    (hu : d.used + (frameB l).length ≤ d.room) (hn : ra.length ≤ 1000) (hfr : (framesB ra).length ≤ 1000000000) :
    Calls Try.prog 9 #[.pointer (some ⟨b1, 0, none⟩), x] w (J2End w0 w b1 b2 db (ra ++ [l]) rb R1 R2 S d.room (d.used + (frameB l).length)) := by
  refine (jAppend2 (f := 3) ⟨h.j1, h.disk, h.low, h.d1⟩ h.calm (by omega) x l hx hxS hl hu hn hfr h.data1).mono ?_
  rintro e w' ⟨he, R', S', d', ⟨g1, g2, g3, g4⟩, g5, g6, g7, g8, g9, g10, g11⟩
  have hz := h.only.size
  refine ⟨he, R', R2, S', d', ⟨g1, h.j2.only g9 fun k hk hu => hu.elim (fun e => h.d12 k e hk) (fun e => h.d2 k hk e), g2, g3, g4, fun k hk hs => ?_, fun k hk hs => ?_, g5, fun k hk => ?_, h.new2, fun k hk => ?_, h.only.trans g9 fun x hx hu => ?_, by rw [g7, upd_same], by rw [g7, upd_ne _ _ (by omega), h.data2]⟩, g6, g8, g10, fun k hk => .inl hk, g11, g9.mono fun k _ hk => hk.elim .inl fun h => .inr (.inr h)⟩
  · rcases g11 k hs with e | e
    · exact h.d2 k hk e
    · have := h.j2.low k hk; omega
  · rcases g10 k hk with e | e
    · exact h.d12 k e hs
    · have := h.j2.low k hs; omega
  · rcases g10 k hk with e | e
    · exact h.new1 k e
    · omega
  · rcases g11 k hk with e | e
    · exact h.newS k e
    · omega
  · rcases hu with e | e
    · have := h.new1 x e; omega
    · have := h.newS x e; omega
theorem J2.append2 {w0 w : World} {b1 b2 db : Nat} {ra rb : List (List UInt8)} {d : DS} {R1 R2 S : Nat → Prop} (h : J2 w0 w b1 b2 db ra rb d R1 R2 S) (x : Value) (l : List UInt8) (hx : Rds w x (bytesV l)) (hxS : ∀ k, rdBlock x = some k → ¬ S k ∧ ¬ R2 k) (hl : l.length ≤ 1048576)
    (hu : d.used + (frameB l).length ≤ d.room) (hn : rb.length ≤ 1000) (hfr : (framesB rb).length ≤ 1000000000) :
    Calls Try.prog 9 #[.pointer (some ⟨b2, 0, none⟩), x] w (J2End w0 w b1 b2 db ra (rb ++ [l]) R1 R2 S d.room (d.used + (frameB l).length)) := by
  refine (jAppend2 (f := 4) ⟨h.j2, h.disk, h.low, h.d2⟩ h.calm (by omega) x l hx hxS hl hu hn hfr h.data2).mono ?_
  rintro e w' ⟨he, R', S', d', ⟨g1, g2, g3, g4⟩, g5, g6, g7, g8, g9, g10, g11⟩
  have hz := h.only.size
  refine ⟨he, R1, R', S', d', ⟨h.j1.only g9 fun k hk hu => hu.elim (fun e => h.d12 k hk e) (fun e => h.d1 k hk e), g1, g2, g3, fun k hk hs => ?_, g4, fun k hk hs => ?_, g5, h.new1, fun k hk => ?_, fun k hk => ?_, h.only.trans g9 fun x hx hu => ?_, by rw [g7, upd_ne _ _ (by omega), h.data1], by rw [g7, upd_same]⟩, g6, g8, fun k hk => .inl hk, g10, g11, g9.mono fun k _ hk => hk.elim (fun h => .inr (.inl h)) fun h => .inr (.inr h)⟩
  · rcases g11 k hs with e | e
    · exact h.d1 k hk e
    · have := h.j1.low k hk; omega
  · rcases g10 k hs with e | e
    · exact h.d12 k hk e
    · have := h.j1.low k hk; omega
  · rcases g10 k hk with e | e
    · exact h.new2 k e
    · omega
  · rcases g11 k hk with e | e
    · exact h.newS k e
    · omega
  · rcases hu with e | e
    · have := h.new2 x e; omega
    · have := h.newS x e; omega

/-- Bytes of one's own, n of them. -/
def Slot (w : World) (v : Value) (n : Nat) : Prop := ∃ l : List UInt8, l.length = n ∧ w.ownsRow 0 5 1 v n (bytesV l)
theorem Slot.only {S : Nat → Prop} {w w' : World} {v : Value} {n : Nat} (h : Slot w v n) (ho : Only S w w') (hd : ∀ k, v.ownBlock = some k → ¬ S k) : Slot w' v n := by
  obtain ⟨l, h1, h2⟩ := h
  exact ⟨l, h1, ho.owns h2 hd⟩
theorem Slot.poke {w : World} {v : Value} {n : Nat} (h : Slot w v n) (g i : Nat) (x : UInt8) : Slot (w.setCell ⟨g, i, none⟩ (.int .u8 (x.toNat : Int))) v n := by
  by_cases hg : v.ownBlock = some g
  · obtain ⟨l, hl, h1, h2⟩ := h
    rcases h2 with ⟨rfl, _⟩ | ⟨g', cap, cur, rfl, hb, hh, hn, hc, hs, ht⟩
    · cases hg
    · injection hg with hg
      subst hg
      by_cases hi : i < n
      · refine ⟨l.set i x, by rw [List.length_set]; exact hl, by rw [bytesV_length, List.length_set]; omega, .inr ⟨_, cap, cur.setIfInBounds i (.int .u8 (x.toNat : Int)), rfl, hb, heap_setCell_at hh i _, hn, hc, by simp; omega, ?_⟩⟩
        rw [Array.toList_setIfInBounds, List.take_set, ht]
        simp [bytesV, List.map_set]
      · refine ⟨l, hl, h1, .inr ⟨_, cap, cur.setIfInBounds i (.int .u8 (x.toNat : Int)), rfl, hb, heap_setCell_at hh i _, hn, hc, by simp; omega, ?_⟩⟩
        rw [Array.toList_setIfInBounds, List.take_set, ht, List.set_eq_of_length_le (by rw [bytesV_length]; omega)]
  · exact h.only (only_one w g i _) fun k hk e => by subst e; exact hg hk
theorem Slot.cells {w : World} {A : Option Addr} {m c n : Nat} (h : Slot w (.slice A m c) n) : m = n ∧ (0 < n → ∃ g, A = some ⟨g, 0, none⟩ ∧ ∀ i, i < n → ∃ z : UInt8, w.cell? ⟨g, i, none⟩ = some (.int .u8 (z.toNat : Int)) ∧ w.frozen? ⟨g, i, none⟩ = false) := by
  obtain ⟨l, hl, h1⟩ := h
  refine ⟨Cd.own_n h1, fun h0 => ?_⟩
  rcases h1.2 with ⟨h2, h3⟩ | ⟨g, cap, cur, hv, hb, hh, hnc, hc, hs, ht⟩
  · injection h2 with _ h2 _
    have := Cd.own_n h1
    omega
  · injection hv with e1 e2 e3
    subst e1
    refine ⟨g, rfl, fun i hi => ⟨l[i], ?_, frozen_of_heap hh i⟩⟩
    have := h1.cells (g := g) rfl i _ (bytesV_get l i (by omega))
    rw [addr_eta _ rfl] at this
    simpa using this
theorem Slot.block {w : World} {v : Value} {n k : Nat} (h : Slot w v n) (hk : v.ownBlock = some k) : ∃ cur, w.heap[k]? = some (.cells cur 5 (0, 0)) := by
  obtain ⟨l, hl, h1⟩ := h
  exact owns_block h1 hk
/-- A list of rows of bytes, all one's own and made since w. -/
def Slots (w wr : World) (v : Value) (m : Nat) : Prop :=
  Only (fun _ => False) w wr ∧ ∃ Vs : List Value, wr.ownsRow 0 23 1 v m Vs ∧ ∀ i, i < m → ∃ V n, Vs[i]? = some V ∧ Slot wr V n ∧ n ≤ 1000000 ∧ ∀ k, V.ownBlock = some k → w.heap.size ≤ k
theorem Slots.of {w wr : World} {v : Value} {recs : List (List UInt8)} (h : FreshRecs w wr v recs) (hl : ∀ i, i < recs.length → (recs.getD i []).length ≤ 1000000) : Slots w wr v recs.length := by
  obtain ⟨Vs, h1, h2⟩ := h.own
  refine ⟨h.only, Vs, h1, fun i hi => ?_⟩
  obtain ⟨V, e1, e2, e3⟩ := h2 i hi
  exact ⟨V, _, e1, ⟨_, rfl, e2⟩, hl i hi, e3⟩
theorem Slots.poke {w wr : World} {v V : Value} {m n g i : Nat} (h : Slots w wr v m) (hV : Slot wr V n) (hg : V.ownBlock = some g) (hgw : w.heap.size ≤ g) (x : UInt8) : Slots w (wr.setCell ⟨g, i, none⟩ (.int .u8 (x.toNat : Int))) v m := by
  obtain ⟨h0, Vs, h1, h2⟩ := h
  obtain ⟨cur, hc⟩ := hV.block hg
  refine ⟨h0.setCell (p := ⟨g, i, none⟩) (.inr hgw) _, Vs, (only_one wr g i _).owns h1 fun k hk e => by subst e; exact own_ne hc h1 (fun e => tags e.symm) hk, fun j hj => ?_⟩
  obtain ⟨U, n', e1, e2, e3, e4⟩ := h2 j hj
  exact ⟨U, n', e1, e2.poke g i x, e3, e4⟩

end Go.Proofs.Ytcedenhfchcgiaa.Jn
