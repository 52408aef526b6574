/- The reference's disk as it lies in memory. Its slices are never changed in place: each file's bytes are only read. -/
import Derived.Test.YtldhpbmcpmebaaaDiskOwns
set_option linter.unusedVariables false
set_option linter.unusedSimpArgs false
namespace Go.Proofs.Ytldhpbmcpmebaaa
open Go.RowKit

def refArr (d : DS) (V : Nat → Value) : Array Value :=
  #[.int .i64 d.room, V 0, V 1, V 2, V 3, V 4, V 5, V 6, V 7, .int .i64 (d.syn 0), .int .i64 (d.syn 1), .int .i64 (d.syn 2), .int .i64 (d.syn 3), .int .i64 (d.syn 4), .int .i64 (d.syn 5), .int .i64 (d.syn 6), .int .i64 (d.syn 7), .int .i64 d.plan, .bool d.off]
theorem refArr_data (d : DS) (V : Nat → Value) {i : Nat} (h : i < 8) : (refArr d V)[1 + i]? = some (V i) := by
  rcases lt8 h with rfl | rfl | rfl | rfl | rfl | rfl | rfl | rfl <;> rfl
theorem refArr_syn (d : DS) (V : Nat → Value) {i : Nat} (h : i < 8) : (refArr d V)[9 + i]? = some (.int .i64 (d.syn i)) := by
  rcases lt8 h with rfl | rfl | rfl | rfl | rfl | rfl | rfl | rfl <;> rfl
theorem refArr_set_data (d : DS) (V : Nat → Value) {i : Nat} (h : i < 8) (v : Value) : (refArr d V).setIfInBounds (1 + i) v = refArr d (upd V i v) := by
  rcases lt8 h with rfl | rfl | rfl | rfl | rfl | rfl | rfl | rfl <;> rfl
theorem refArr_set_syn (d : DS) (V : Nat → Value) {i : Nat} (h : i < 8) (n : Nat) : (refArr d V).setIfInBounds (9 + i) (.int .i64 n) = refArr { d with syn := upd d.syn i n } V := by
  rcases lt8 h with rfl | rfl | rfl | rfl | rfl | rfl | rfl | rfl <;> rfl
theorem refArr_set_plan (d : DS) (V : Nat → Value) (n : Nat) : (refArr d V).setIfInBounds 17 (.int .i64 n) = refArr { d with plan := n } V := rfl
theorem refArr_set_off (d : DS) (V : Nat → Value) (x : Bool) : (refArr d V).setIfInBounds 18 (.bool x) = refArr { d with off := x } V := rfl

theorem Rds.lt {w : World} {v : Value} {xs : List Value} (h : Rds w v xs) {k : Nat} (hk : rdBlock v = some k) : k < w.heap.size := by
  obtain ⟨A, cap, rfl, hle, _, _, _, hc⟩ := h
  cases A with
  | none => cases hk
  | some a =>
    simp only [rdBlock] at hk
    split at hk
    · cases hk
    · rename_i hn
      cases hk
      have h0 : 0 < xs.length := by omega
      have h1 := hc a rfl 0 _ (List.getElem?_eq_getElem h0)
      have : (a.add 0).block = a.block := by unfold Addr.add; split <;> rfl
      have h2 := World.block_lt_of_cell? w _ h1
      rw [this] at h2
      exact h2

structure RefAt (w : World) (b : Nat) (d : DS) (V : Nat → Value) : Prop where
  blk : w.heap[b]? = some (.cells (refArr d V) 85 (0, 0))
  rds : ∀ i, i < 8 → Rds w (V i) (bytesV (d.data i))
  apart : ∀ i, i < 8 → rdBlock (V i) ≠ some b
def rfoot (b : Nat) (V : Nat → Value) (k : Nat) : Prop := k = b ∨ ∃ i, i < 8 ∧ rdBlock (V i) = some k
theorem RefAt.lt {w : World} {b : Nat} {d : DS} {V : Nat → Value} (h : RefAt w b d V) {k : Nat} (hk : rfoot b V k) : k < w.heap.size := by
  rcases hk with rfl | ⟨i, hi, hk⟩
  · exact heap_lt h.blk
  · exact (h.rds i hi).lt hk
theorem RefAt.only {S : Nat → Prop} {w w' : World} {b : Nat} {d : DS} {V : Nat → Value} (h : RefAt w b d V) (ho : Only S w w') (hd : ∀ k, rfoot b V k → ¬ S k) : RefAt w' b d V :=
  ⟨ho.heap h.blk (hd b (.inl rfl)), fun i hi => (h.rds i hi).only ho fun k hk => hd k (.inr ⟨i, hi, hk⟩), h.apart⟩
theorem RefAt.grow {w w' : World} {b : Nat} {d : DS} {V : Nat → Value} (h : RefAt w b d V) (ho : Only (fun _ => False) w w') : RefAt w' b d V := h.only ho fun _ _ => id
theorem Rds.setCell {w : World} {v : Value} {xs : List Value} (h : Rds w v xs) {b : Nat} (hb : rdBlock v ≠ some b) (o : Nat) (u : Value) : Rds (w.setCell ⟨b, o, none⟩ u) v xs :=
  h.only ((Only.refl (fun k => k = b) w).setCell (p := ⟨b, o, none⟩) (.inl rfl) u) fun k hk e => hb (by rw [hk, e])
theorem RefAt.cell_room {w : World} {b : Nat} {d : DS} {V : Nat → Value} (h : RefAt w b d V) : w.cell? ⟨b, 0, none⟩ = some (.int .i64 d.room) := cell_of_heap h.blk 0
theorem RefAt.cell_plan {w : World} {b : Nat} {d : DS} {V : Nat → Value} (h : RefAt w b d V) : w.cell? ⟨b, 17, none⟩ = some (.int .i64 d.plan) := cell_of_heap h.blk 17
theorem RefAt.cell_off {w : World} {b : Nat} {d : DS} {V : Nat → Value} (h : RefAt w b d V) : w.cell? ⟨b, 18, none⟩ = some (.bool d.off) := cell_of_heap h.blk 18
theorem RefAt.cell_data {w : World} {b : Nat} {d : DS} {V : Nat → Value} (h : RefAt w b d V) {i : Nat} (hi : i < 8) : w.cell? ⟨b, 1 + i, none⟩ = some (V i) := (cell_of_heap h.blk _).trans (refArr_data d V hi)
theorem RefAt.cell_syn {w : World} {b : Nat} {d : DS} {V : Nat → Value} (h : RefAt w b d V) {i : Nat} (hi : i < 8) : w.cell? ⟨b, 9 + i, none⟩ = some (.int .i64 (d.syn i)) := (cell_of_heap h.blk _).trans (refArr_syn d V hi)
theorem RefAt.frozen {w : World} {b : Nat} {d : DS} {V : Nat → Value} (h : RefAt w b d V) (o : Nat) : w.frozen? ⟨b, o, none⟩ = false := frozen_of_heap h.blk o
theorem RefAt.set_plan {w : World} {b : Nat} {d : DS} {V : Nat → Value} (h : RefAt w b d V) (n : Nat) : RefAt (w.setCell ⟨b, 17, none⟩ (.int .i64 n)) b { d with plan := n } V :=
  ⟨by rw [heap_setCell_at h.blk, refArr_set_plan], fun i hi => (h.rds i hi).setCell (h.apart i hi) _ _, h.apart⟩
theorem RefAt.set_off {w : World} {b : Nat} {d : DS} {V : Nat → Value} (h : RefAt w b d V) (x : Bool) : RefAt (w.setCell ⟨b, 18, none⟩ (.bool x)) b { d with off := x } V :=
  ⟨by rw [heap_setCell_at h.blk, refArr_set_off], fun i hi => (h.rds i hi).setCell (h.apart i hi) _ _, h.apart⟩
theorem RefAt.set_syn {w : World} {b : Nat} {d : DS} {V : Nat → Value} (h : RefAt w b d V) {i : Nat} (hi : i < 8) (n : Nat) : RefAt (w.setCell ⟨b, 9 + i, none⟩ (.int .i64 n)) b { d with syn := upd d.syn i n } V :=
  ⟨by rw [heap_setCell_at h.blk, refArr_set_syn d V hi], fun i hi => (h.rds i hi).setCell (h.apart i hi) _ _, h.apart⟩
theorem RefAt.set_data {w : World} {b : Nat} {d : DS} {V : Nat → Value} (h : RefAt w b d V) {i : Nat} (hi : i < 8) {v : Value} {l : List UInt8} (hv : Rds w v (bytesV l)) (hb : rdBlock v ≠ some b) : RefAt (w.setCell ⟨b, 1 + i, none⟩ v) b { d with data := upd d.data i l } (upd V i v) := by
  refine ⟨by rw [heap_setCell_at h.blk, refArr_set_data d V hi]; rfl, fun j hj => ?_, fun j hj => ?_⟩
  · by_cases e : j = i
    · subst e
      simp only [upd_same]
      exact hv.setCell hb _ _
    · simp only [upd_ne _ _ e]
      exact (h.rds j hj).setCell (h.apart j hj) _ _
  · by_cases e : j = i
    · subst e
      rw [upd_same]
      exact hb
    · rw [upd_ne _ _ e]
      exact h.apart j hj
theorem rfoot_upd {b : Nat} {V : Nat → Value} {i : Nat} {v : Value} {n : Nat} (hv : ∀ k, rdBlock v = some k → n ≤ k) : ∀ k, rfoot b (upd V i v) k → rfoot b V k ∨ n ≤ k := by
  rintro k (hk | ⟨j, hj, hk⟩)
  · exact .inl (.inl hk)
  · by_cases e : j = i
    · subst e
      rw [upd_same] at hk
      exact .inr (hv k hk)
    · rw [upd_ne _ _ e] at hk
      exact .inl (.inr ⟨j, hj, hk⟩)

theorem ref_begin {w : World} {b : Nat} {d : DS} {V : Nat → Value} (h : RefAt w b d V) (at_ : Int) :
    Calls Try.prog 76 #[.pointer (some ⟨b, 0, none⟩), .int .i64 at_] w fun e w' => e = .returned (.int .i64 (d.code at_)) ∧ w = w' := by
  have hc := h.cell_off
  clear h
  cases ho : d.off with
  | true =>
    rw [ho] at hc
    have e1 : d.code at_ = 220 := by simp [DS.code, ho]
    rw [e1]
    clear e1 ho
    go_enter Try.func76, Try.ntmps76
    go_wp2
    go_ret
    exact ⟨rfl, rfl⟩
  | false =>
    rw [ho] at hc
    by_cases h1 : at_ < 0
    · have e1 : d.code at_ = 1 := by simp [DS.code, ho, h1]
      rw [e1]
      clear e1 ho
      go_enter Try.func76, Try.ntmps76
      go_wp2
      go_ret
      exact ⟨rfl, rfl⟩
    · by_cases h2 : 8 ≤ at_
      · have e1 : d.code at_ = 1 := by simp [DS.code, ho, h2]
        rw [e1]
        clear e1 ho
        go_enter Try.func76, Try.ntmps76
        go_wp2
        go_ret
        exact ⟨rfl, rfl⟩
      · have e1 : d.code at_ = 0 := by simp [DS.code, ho]; omega
        rw [e1]
        clear e1 ho
        go_enter Try.func76, Try.ntmps76
        go_wp2
        go_ret
        exact ⟨rfl, rfl⟩

theorem ref_off {w : World} {b : Nat} {d : DS} {V : Nat → Value} (h : RefAt w b d V) :
    Calls Try.prog 46 #[.pointer (some ⟨b, 0, none⟩)] w fun e w' => e = .returned (.bool d.off) ∧ w = w' := by
  have hc := h.cell_off
  clear h
  go_enter Try.func46, Try.ntmps46
  go_wp2
  go_ret
  exact ⟨rfl, rfl⟩

/-- What fails leaves. -/
def DS.failed (d : DS) : DS := if d.plan = 0 then d else { d with plan := d.plan - 1, off := decide (d.plan = 1) }
theorem ref_fails {w : World} {b : Nat} {d : DS} {V : Nat → Value} (h : RefAt w b d V) (hp : d.plan ≤ 9223372036854775807) :
    Calls Try.prog 86 #[.pointer (some ⟨b, 0, none⟩)] w fun e w' => e = .returned (.bool d.failed.off) ∧ RefAt w' b d.failed V ∧ Only (fun k => k = b) w w' := by
  have hc := h.cell_off
  have hc2 := h.cell_plan
  have hf := h.frozen 17
  have hf2 := h.frozen 18
  have H := hide h
  by_cases h0 : d.plan = 0
  · have e : d.failed = d := by unfold DS.failed; rw [if_pos h0]
    rw [e]
    rw [h0] at hc2
    clear e h0 hp h
    go_enter Try.func86, Try.ntmps86
    go_wp2
    go_ret
    exact ⟨rfl, H.out, Only.refl _ _⟩
  · obtain ⟨n, hn⟩ : ∃ n, d.plan = n + 1 := ⟨d.plan - 1, by omega⟩
    have e : d.failed = { d with plan := n, off := decide (n = 0) } := by unfold DS.failed; rw [if_neg h0, hn]; simp
    rw [e]
    rw [hn] at hc2 hp
    have hc3 : w.cell? ⟨b, 17, none⟩ = some (.int .i64 ((n : Int) + 1)) := by rw [hc2]; simp
    clear e h0 h hn hc2
    have hb : ((n : Int) == 0) = decide (n = 0) := by by_cases h : n = 0 <;> simp [h]
    go_enter Try.func86, Try.ntmps86
    go_wp2
    go_ret
    exact ⟨rfl, (H.out.set_plan n).set_off _, ((Only.refl (fun k => k = b) w).setCell (p := ⟨b, 17, none⟩) (.inl rfl) _).setCell (p := ⟨b, 18, none⟩) (.inl rfl) _⟩

theorem idx8 (V : Nat → Value) (W : World) {k : Nat} (h : k < 8) : (Instr.index 83 (.agg #[V 0, V 1, V 2, V 3, V 4, V 5, V 6, V 7]) (.int .i64 (k : Nat))).run Try.prog W = .ok (V k) W := by
  rcases lt8 h with rfl | rfl | rfl | rfl | rfl | rfl | rfl | rfl <;> kernel_rfl
set_option maxRecDepth 100000 in
theorem ref_used {w : World} {b : Nat} {d : DS} {V : Nat → Value} (h : RefAt w b d V) (hu : d.used ≤ 16777216) :
    Calls Try.prog 47 #[.pointer (some ⟨b, 0, none⟩)] w fun e w' => e = .returned (.int .i64 d.used) ∧ w = w' := by
  have c0 := h.cell_data (i := 0) (by omega)
  have c1 := h.cell_data (i := 1) (by omega)
  have c2 := h.cell_data (i := 2) (by omega)
  have c3 := h.cell_data (i := 3) (by omega)
  have c4 := h.cell_data (i := 4) (by omega)
  have c5 := h.cell_data (i := 5) (by omega)
  have c6 := h.cell_data (i := 6) (by omega)
  have c7 := h.cell_data (i := 7) (by omega)
  have HS : Hid (∀ k, k ≤ 8 → sumTo d.len k ≤ 16777216) := fun k hk => Nat.le_trans (sumTo_mono d.len hk) hu
  have HV : Hid (∀ k, k < 8 → ∃ A c, V k = .slice A (d.len k) c) := fun k hk => by
    obtain ⟨A, c, e, _⟩ := h.rds k hk
    exact ⟨A, c, by rw [e, bytesV_length]; rfl⟩
  clear h hu
  go_enter Try.func47, Try.ntmps47
  go_wp2
  go_loop [3, 10] (fun s i => ∃ k : Nat, k ≤ 8 ∧ i = .int .i64 k ∧ s = .int .i64 (sumTo d.len k)) (fun _ i => 8 - (intOf i).toNat)
  case atStart => exact ⟨0, by omega, rfl, rfl⟩
  case round =>
    obtain ⟨k, hk, rfl, rfl⟩ := hrel
    by_cases hlt : k < 8
    · obtain ⟨A, c, hc⟩ := HV.out k hlt
      have hix := fun W => idx8 V W hlt
      rw [hc] at hix
      have h1 := HS.out (k+1) (by omega)
      simp only [sumTo] at h1
      have h2 := HS.out k (by omega)
      clear hc
      go_wp2
      go_round
      case rel => exact ⟨k + 1, by omega, by go_num, by simp only [sumTo]; go_num⟩
      case measure => simp [intOf]; omega
    · obtain rfl : k = 8 := by omega
      go_wp2
      go_ret
      exact ⟨rfl, rfl⟩

end Go.Proofs.Ytldhpbmcpmebaaa
