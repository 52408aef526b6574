/- The reference's disk: its methods, walked. -/
import Derived.Test.YtldhpbmcpmebaaaRef22a
set_option linter.unusedVariables false
set_option linter.unusedSimpArgs false
namespace Go.Proofs.Ytldhpbmcpmebaaa
open Go.RowKit

theorem gate_code {d : DS} {at_ : Int} (h : d.code at_ ≠ 0) (ec : Nat → Int) (doF tornF : DS → Nat → DS) : d.gate at_ ec doF tornF = (d, d.code at_) := by
  unfold DS.gate
  unfold DS.code at h ⊢
  by_cases h1 : d.off = true
  · simp [h1]
  · by_cases h2 : at_ < 0 ∨ 8 ≤ at_
    · simp [h1, h2]
    · simp [h1, h2] at h
theorem gate_ref {d : DS} {at_ : Int} (h : d.code at_ = 0) (ec : Nat → Int) (doF tornF : DS → Nat → DS) : d.gate at_ ec doF tornF =
    if ec at_.toNat ≠ 0 then (d, ec at_.toNat) else if d.failed.off then (tornF d.failed at_.toNat, 220) else (doF d.failed at_.toNat, 0) := by
  unfold DS.gate
  unfold DS.code at h
  by_cases h1 : d.off = true
  · simp [h1] at h
  · by_cases h2 : at_ < 0 ∨ 8 ≤ at_
    · simp [h1, h2] at h
    · rw [if_neg h1, if_neg h2]
      by_cases h3 : ec at_.toNat ≠ 0
      · rw [if_pos h3, if_pos h3]
      · rw [if_neg h3, if_neg h3]
        have h1' : d.off = false := by simpa using h1
        unfold DS.failed
        by_cases h4 : d.plan = 0
        · rw [if_pos h4, if_pos h4, if_neg h1]
        · rw [if_neg h4, if_neg h4]
          by_cases h5 : d.plan = 1
          · simp [h5]
          · simp [h5, h1']
theorem code_zero {d : DS} {at_ : Int} (h : d.code at_ = 0) : d.off = false ∧ ∃ i : Nat, at_ = i ∧ i < 8 := by
  unfold DS.code at h
  by_cases h1 : d.off = true
  · simp [h1] at h
  · by_cases h2 : at_ < 0 ∨ 8 ≤ at_
    · simp [h1, h2] at h
    · exact ⟨by simpa using h1, at_.toNat, by omega, by omega⟩

def RefEnd (w : World) (b : Nat) (V : Nat → Value) (d' : DS) (w' : World) : Prop :=
  ∃ V', RefAt w' b d' V' ∧ (∀ k, rfoot b V' k → rfoot b V k ∨ w.heap.size ≤ k) ∧ Only (fun k => k = b) w w'

theorem RefAt.data {w : World} {b : Nat} {d : DS} {V : Nat → Value} (h : RefAt w b d V) {i : Nat} (hi : i < 8) : ∃ A c, V i = .slice A (d.len i) c ∧ d.len i ≤ c := by
  obtain ⟨A, c, e, hl, _⟩ := h.rds i hi
  rw [bytesV_length] at e hl
  exact ⟨A, c, e, hl⟩

theorem made0 (w : World) : (w.alloc (.cells #[] 5)).ownsRow 0 5 1 (.slice (some ⟨w.heap.size, 0, none⟩) 0 0) 0 (bytesV []) := World.ownsRow_made w #[] 0 (by omega) (by simp [maxLen]) (by simp)

theorem ref_size {w : World} {b : Nat} {d : DS} {V : Nat → Value} (h : RefAt w b d V) (at_ : Int) :
    Calls Try.prog 49 #[.pointer (some ⟨b, 0, none⟩), .int .i64 at_] w fun e w' => e = .returned (.tuple #[.int .i64 (if d.code at_ = 0 then d.len at_.toNat else 0), .int .i64 (d.code at_)]) ∧ w = w' := by
  have hB := hide (ref_begin h at_)
  by_cases hc : d.code at_ = 0
  · rw [hc] at hB ⊢
    obtain ⟨h0, i, rfl, hi⟩ := code_zero hc
    rw [if_pos rfl, Int.toNat_natCast]
    obtain ⟨A, c, eV, -⟩ := h.data hi
    have hd := h.cell_data hi
    rw [eV] at hd
    clear h hc h0 eV
    go_enter Try.func49, Try.ntmps49
    go_wp2_with (go_at_call 76; refine hB.out.mono ?_; rintro e w1 ⟨rfl, rfl⟩)
    go_ret2
    exact ⟨rfl, rfl⟩
  · rw [if_neg hc]
    generalize d.code at_ = c at *
    clear h
    go_enter Try.func49, Try.ntmps49
    go_wp2_with (go_at_call 76; refine hB.out.mono ?_; rintro e w1 ⟨rfl, rfl⟩)
    go_ret2
    exact ⟨rfl, rfl⟩

theorem ref_read {w : World} {b : Nat} {d : DS} {V : Nat → Value} (h : RefAt w b d V) (hok : d.Ok) (at_ : Int) :
    Calls Try.prog 48 #[.pointer (some ⟨b, 0, none⟩), .int .i64 at_] w (ReadEnd w (if d.code at_ = 0 then d.data at_.toNat else []) (d.code at_)) := by
  have hB := hide (ref_begin h at_)
  by_cases hc : d.code at_ = 0
  · rw [hc] at hB ⊢
    obtain ⟨h0, i, rfl, hi⟩ := code_zero hc
    rw [if_pos rfl, Int.toNat_natCast]
    obtain ⟨A, c, eV, -⟩ := h.data hi
    have hd := h.cell_data hi
    have hr := h.rds i hi
    have hl := hide (hok.len hi)
    rw [eV] at hd hr
    have HR := hide hr
    have hm := hide (made0 w)
    have hd2 : (w.alloc (.cells #[] 5)).cell? ⟨b, 1 + i, none⟩ = some (.slice A (d.len i) c) := ((Only.refl (fun _ => False) w).alloc _).cell hd id
    clear h hc h0 eV hr hok
    go_enter Try.func48, Try.ntmps48
    go_wp2_with (first
      | (go_at_call 76; refine hB.out.mono ?_; rintro e w1 ⟨rfl, rfl⟩)
      | (at_builtin; refine wp_app rfl _ _ 33 rfl (.slice (some ⟨w.heap.size, 0, none⟩) 0 0) 0 [] rfl hm.out _ rfl _ (d.data i) ((HR.out.only ((Only.refl (fun _ => False) w).alloc _) (fun _ _ => id)).src Try.underlying33 (bytesV_one _)) (by have := hl.out; unfold DS.len at this; simp only [List.length_nil]; unfold lim47; omega) ?_; intro v1 w2 g1 g2 g3; rw [List.nil_append] at g1; obtain ⟨A1, n1, c1, rfl⟩ := own_form' g1; have P1 := hide g1; have P2 := hide g2; have P3 := hide g3; clear g1 g2 g3))
    go_ret2
    refine ⟨_, rfl, P1.out, ?_, ?_⟩
    · rcases P3.out with g3 | ⟨k, g3, hk⟩
      · exact .inr ⟨_, g3, Nat.le_refl _⟩
      · exact .inr ⟨k, g3, by simp at hk; omega⟩
    · exact ((Only.refl _ w).alloc _).grown P2.out fun k hk => by
        simp [Value.ownBlock] at hk
        omega
  · rw [if_neg hc]
    have HN : Hid (∀ c : Int, ReadEnd w [] c (.returned (.tuple #[.slice none 0 0, .int .i64 c])) w) := fun c => ⟨_, rfl, World.ownsRow_nil _ _ _ _, .inl rfl, Only.refl _ _⟩
    generalize d.code at_ = c at *
    clear h
    go_enter Try.func48, Try.ntmps48
    go_wp2_with (go_at_call 76; refine hB.out.mono ?_; rintro e w1 ⟨rfl, rfl⟩)
    go_ret2
    exact HN.out _

theorem ref_fail {w : World} {b : Nat} {d : DS} {V : Nat → Value} (h : RefAt w b d V) (n : Int) :
    Calls Try.prog 73 #[.pointer (some ⟨b, 0, none⟩), .int .i64 n] w fun e w' => e = .returned (.tuple #[]) ∧ RefEnd w b V (d.fail n) w' := by
  have hc := h.cell_off
  have hp := h.cell_plan
  have hf := h.frozen 17
  have H := hide h
  cases ho : d.off with
  | true =>
    rw [ho] at hc
    have e1 : d.fail n = d := by unfold DS.fail; rw [if_pos ho]
    rw [e1]
    clear e1 ho h
    go_enter Try.func73, Try.ntmps73
    go_wp2
    go_end0
    exact ⟨rfl, V, H.out, fun _ => .inl, Only.refl _ _⟩
  | false =>
    rw [ho] at hc
    have e1 : d.fail n = { d with plan := n.toNat } := by unfold DS.fail; rw [if_neg (by rw [ho]; decide)]
    rw [e1]
    clear e1 ho h
    by_cases hn : 0 ≤ n
    · obtain ⟨m, rfl⟩ := Int.eq_ofNat_of_zero_le hn
      go_enter Try.func73, Try.ntmps73
      go_wp2
      go_end0
      exact ⟨rfl, V, H.out.set_plan m, fun _ => .inl, (Only.refl (fun k => k = b) w).setCell (p := ⟨b, 17, none⟩) (.inl rfl) _⟩
    · have e2 : n.toNat = 0 := by omega
      rw [e2]
      go_enter Try.func73, Try.ntmps73
      go_wp2
      go_end0
      exact ⟨rfl, V, H.out.set_plan 0, fun _ => .inl, (Only.refl (fun k => k = b) w).setCell (p := ⟨b, 17, none⟩) (.inl rfl) _⟩

theorem ref_sync {w : World} {b : Nat} {d : DS} {V : Nat → Value} (h : RefAt w b d V) (hok : d.Ok) (at_ : Int) :
    Calls Try.prog 72 #[.pointer (some ⟨b, 0, none⟩), .int .i64 at_] w fun e w' => e = .returned (.int .i64 (d.sync at_).2) ∧ RefEnd w b V (d.sync at_).1 w' := by
  have hB := hide (ref_begin h at_)
  have hF := hide (ref_fails h hok.plan)
  have H := hide h
  by_cases hc : d.code at_ = 0
  · unfold DS.sync
    rw [gate_ref hc]
    rw [hc] at hB
    obtain ⟨h0, i, rfl, hi⟩ := code_zero hc
    simp only [Int.toNat_natCast, ne_eq, not_true_eq_false, if_false]
    cases hfo : d.failed.off with
    | true =>
      rw [hfo] at hF
      clear h hc h0 hok hfo
      go_enter Try.func72, Try.ntmps72
      go_wp2_with (first
        | go_at_call 76; refine hB.out.mono ?_; rintro e w1 ⟨rfl, rfl⟩
        | (go_at_call 86; refine hF.out.mono ?_; rintro e w1 ⟨rfl, g1, g2⟩; have G1 := hide g1; have G2 := hide g2; clear g1 g2))
      go_ret
      exact ⟨rfl, V, G1.out, fun _ => .inl, G2.out⟩
    | false =>
      rw [hfo] at hF
      have hdl : d.failed.len i = d.len i := by unfold DS.failed; split <;> rfl
      have HF := hide hfo
      clear h hc h0 hok hfo
      go_enter Try.func72, Try.ntmps72
      go_wp2_with (first
        | go_at_call 76; refine hB.out.mono ?_; rintro e w1 ⟨rfl, rfl⟩
        | (go_at_call 86; refine hF.out.mono ?_; rintro e w1 ⟨rfl, g1, g2⟩; have G1 := hide g1; have G2 := hide g2; obtain ⟨A, c, eV, -⟩ := g1.data hi; have hd := g1.cell_data hi; have hs := g1.cell_syn hi; have hf := g1.frozen (9 + i); rw [eV] at hd; clear g1 g2 eV))
      go_region
      all_goals
        go_wp2
        go_ret
        refine ⟨rfl, V, ?_, fun _ => .inl, (G2.out.setCell (p := ⟨b, 9 + i, none⟩) (.inl rfl) _).drew⟩
        have h2 := G1.out.set_syn hi (d.len i)
        rw [← hdl] at h2 ⊢
        exact h2.grow (Only.refl _ _).drew
  · unfold DS.sync
    rw [gate_code hc]
    generalize d.code at_ = c at *
    clear h
    go_enter Try.func72, Try.ntmps72
    go_wp2_with (go_at_call 76; refine hB.out.mono ?_; rintro e w1 ⟨rfl, rfl⟩)
    go_ret
    exact ⟨rfl, V, H.out, fun _ => .inl, Only.refl _ _⟩

theorem failed_len (d : DS) (i : Nat) : d.failed.len i = d.len i := by unfold DS.failed; split <;> rfl
theorem failed_data (d : DS) (i : Nat) : d.failed.data i = d.data i := by unfold DS.failed; split <;> rfl
theorem ref_used_N {w : World} {b : Nat} {d : DS} {V : Nat → Value} (h : RefAt w b d V) (hok : d.Ok) (n : Nat) :
    Calls Try.prog 47 #[.pointer (some ⟨b, 0, none⟩)] (w.drewN n) fun e w' => e = .returned (.int .i64 d.used) ∧ ∃ m, w' = w.drewN m :=
  quiet_at (ref_used (h.grow ((Only.refl _ w).drewN n)) (Nat.le_trans hok.used hok.room))

/-- A slice that was made since w1. -/
structure Fresh (w1 w2 : World) (v : Value) (l : List UInt8) : Prop where
  own : w2.ownsRow 0 5 1 v l.length (bytesV l)
  only : Only (fun _ => False) w1 w2
  new : ∀ k, v.ownBlock = some k → w1.heap.size ≤ k
theorem fresh1 {w1 w2 : World} {v : Value} {l : List UInt8} (g1 : w2.ownsRow 0 5 1 v ([] ++ l).length (bytesV ([] ++ l))) (g2 : (w1.alloc (.cells #[] 5)).drew.grownBy w2 (Value.slice (some ⟨w1.heap.size, 0, none⟩) 0 0).ownBlock)
    (g3 : v.ownBlock = (Value.slice (some ⟨w1.heap.size, 0, none⟩) 0 0).ownBlock ∨ ∃ k, v.ownBlock = some k ∧ (w1.alloc (.cells #[] 5)).drew.heap.size ≤ k) : Fresh w1 w2 v l := by
  refine ⟨by simpa using g1, ((Only.refl (fun _ => False) w1).alloc _).drew.grown g2 fun k hk => ?_, fun k hk => ?_⟩
  · simp [Value.ownBlock] at hk
    omega
  · rcases g3 with g3 | ⟨k', g3, h⟩
    · rw [hk] at g3
      simp [Value.ownBlock] at g3
      omega
    · rw [hk] at g3
      injection g3 with g3
      simp at h
      omega
theorem fresh2 {w1 w2 w3 : World} {v v' : Value} {l m : List UInt8} (h : Fresh w1 w2 v l) (g1 : w3.ownsRow 0 5 1 v' (l ++ m).length (bytesV (l ++ m))) (g2 : w2.grownBy w3 v.ownBlock)
    (g3 : v'.ownBlock = v.ownBlock ∨ ∃ k, v'.ownBlock = some k ∧ w2.heap.size ≤ k) : Fresh w1 w3 v' (l ++ m) := by
  refine ⟨g1, h.only.grown g2 fun k hk => .inr (h.new k hk), fun k hk => ?_⟩
  rcases g3 with g3 | ⟨k', g3, h'⟩
  · exact h.new k (by rw [← g3, hk])
  · rw [hk] at g3
    injection g3 with g3
    have := h.only.size
    omega
theorem made0d (w : World) : (w.alloc (.cells #[] 5)).drew.ownsRow 0 5 1 (.slice (some ⟨w.heap.size, 0, none⟩) 0 0) 0 (bytesV []) := (Only.refl (fun _ => False) _).drew.owns (made0 w) fun _ _ => id
/-- Behind the store of a new slice into file i. -/
theorem Fresh.store {w1 w3 : World} {b : Nat} {d : DS} {V : Nat → Value} {v : Value} {l : List UInt8} (h : Fresh w1 w3 v l) (g : RefAt w1 b d V) {i : Nat} (hi : i < 8) : RefEnd w1 b V { d with data := upd d.data i l } (w3.setCell ⟨b, 1 + i, none⟩ v) := by
  have hb : b < w1.heap.size := heap_lt g.blk
  refine ⟨_, (g.grow h.only).set_data hi (Rds.own h.own) (fun e => by have := h.new b (rdBlock_own e); omega), rfoot_upd fun k hk => h.new k (rdBlock_own hk), ?_⟩
  exact Only.setCell (S := fun k => k = b) (p := ⟨b, 1 + i, none⟩) (h.only.mono fun _ _ h => h.elim) (.inl rfl) _
theorem RefEnd.after {w w1 w2 : World} {b : Nat} {V : Nat → Value} {d : DS} (h : RefEnd w1 b V d w2) (ho : Only (fun k => k = b) w w1) : RefEnd w b V d w2 := by
  obtain ⟨V', h1, h2, h3⟩ := h
  exact ⟨V', h1, fun k hk => (h2 k hk).imp id fun hl => Nat.le_trans ho.size hl, ho.trans' h3⟩
theorem RefEnd.drew {w w2 : World} {b : Nat} {V : Nat → Value} {d : DS} (h : RefEnd w b V d w2) : RefEnd w b V d w2.drew := by
  obtain ⟨V', h1, h2, h3⟩ := h
  exact ⟨V', h1.grow (Only.refl _ _).drew, h2, h3.drew⟩

set_option maxRecDepth 100000 in
set_option maxHeartbeats 1000000 in
theorem ref_append {w : World} {b : Nat} {d : DS} {V : Nat → Value} (h : RefAt w b d V) (hok : d.Ok) (at_ : Int) (x : Value) (l : List UInt8) (hx : Rds w x (bytesV l)) (hxb : rdBlock x ≠ some b) (hl : l.length ≤ lim46) :
    Calls Try.prog 69 #[.pointer (some ⟨b, 0, none⟩), .int .i64 at_, x] w fun e w' => e = .returned (.int .i64 (d.append at_ l).2) ∧ RefEnd w b V (d.append at_ l).1 w' := by
  have hB := hide (ref_begin h at_)
  have HX := hide hx
  obtain ⟨A0, n0, c0, rfl⟩ := hx.form
  have hn0 : n0 = l.length := by obtain ⟨A, c, e, _⟩ := hx; injection e with _ e _; rw [e, bytesV_length]
  subst hn0
  have H := hide h
  by_cases hc : d.code at_ = 0
  · unfold DS.append
    rw [gate_ref hc]
    rw [hc] at hB
    obtain ⟨h0, i, rfl, hi⟩ := code_zero hc
    rw [Int.toNat_natCast]
    have hU := hide (ref_used_N h hok)
    have hroom := h.cell_room
    have hr1 := hok.room
    have hr2 := hok.used
    by_cases hfit : d.room < d.used + l.length
    · have e : d.fits false l.length i = 221 := by unfold DS.fits; simp only [Bool.false_eq_true, if_false, Nat.sub_zero]; rw [if_pos hfit]
      rw [e, if_pos (by decide)]
      have hL := hide hl
      have hl2 : l.length ≤ 70368744177664 := hl
      clear hl h hc h0 hok e hx
      go_enter Try.func69, Try.ntmps69
      go_wp2_with (go_at_call 76; refine hB.out.mono ?_; rintro e w1 ⟨rfl, rfl⟩)
      go_quiet ((go_at_call 47; exact hU.out _))
      go_wp2
      go_ret
      exact ⟨rfl, V, H.out.grow ((Only.refl _ w).drewN nq), fun _ => .inl, (Only.refl _ w).drewN nq⟩
    · have e : d.fits false l.length i = 0 := by unfold DS.fits; simp only [Bool.false_eq_true, if_false, Nat.sub_zero]; rw [if_neg hfit]
      rw [e, if_neg (by decide)]
      have hF := hide (fun n => ref_fails (h.grow ((Only.refl _ w).drewN n)) hok.plan)
      have hdl : Hid (d.len i ≤ 16777216) := hok.len hi
      have hL := hide hl
      have hl2 : l.length ≤ 16777216 := by omega
      clear hl h hc h0 hok e hx
      go_enter Try.func69, Try.ntmps69
      go_wp2_with (go_at_call 76; refine hB.out.mono ?_; rintro e w1 ⟨rfl, rfl⟩)
      go_quiet ((go_at_call 47; exact hU.out _))
      go_wp2_with (go_at_call 86; refine (hF.out _).mono ?_; rintro e w1 ⟨rfl, g1, g2⟩; have G1 := hide g1; have G2 := hide g2; obtain ⟨A, c, eV, -⟩ := g1.data hi; have hd := g1.cell_data hi; have hf := g1.frozen (1 + i); rw [eV] at hd; have HR := hide (eV ▸ g1.rds i hi); have HD := hide (show ∀ w2 : World, Only (fun _ => False) w1 w2 → w2.cell? ⟨b, 1 + i, none⟩ = some (.slice A (d.failed.len i) c) ∧ w2.frozen? ⟨b, 1 + i, none⟩ = false from fun w2 ho => ⟨ho.cell hd id, frozen_of_heap (ho.heap g1.blk id) _⟩); have hd2 : (w1.alloc (.cells #[] 5)).drew.cell? ⟨b, 1 + i, none⟩ = some (.slice A (d.failed.len i) c) := ((Only.refl (fun _ => False) w1).alloc _).drew.cell hd id; clear g1 g2 eV)
      have hi' : (i : Int) < 8 := by omega
      have hs1 := hide (show Src Try.prog 1 33 (.slice A (d.failed.len i) c) _ (bytesV (d.failed.data i)) (w1.alloc (.cells #[] 5)).drew from (HR.out.only ((Only.refl (fun _ => False) w1).alloc _).drew fun _ _ => id).src Try.underlying33 (bytesV_one _))
      have hs2 := hide (fun (w2 : World) (ho : Only (fun _ => False) w1 w2) => (show Src Try.prog 1 33 (.slice A0 l.length c0) _ (bytesV l) w2 from (((HX.out.only ((Only.refl (fun _ => False) w).drewN _) (fun _ _ => id)).only G2.out (fun k hk e => hxb (by rw [hk, e]))).only ho (fun _ _ => id)).src Try.underlying33 (bytesV_one _)))
      have hdd : Hid ((d.failed.data i).length ≤ 16777216) := by rw [failed_data]; exact hdl.out
      go_region_law (first
        | (refine step_app rfl _ _ 33 rfl (.slice (some ⟨w1.heap.size, 0, none⟩) 0 0) 0 [] rfl (made0d w1) _ rfl _ (d.failed.data i) hs1.out (by have := hdd.out; simp only [List.length_nil]; unfold lim47; omega) ?_; intro v1 w2 g1 g2 g3; have F1 := hide (fresh1 g1 g2 g3); obtain ⟨A1, n1, c1, rfl⟩ := own_form' g1; clear g1 g2 g3)
        | (refine step_app rfl _ _ 33 rfl (.slice A1 n1 c1) _ (d.failed.data i) rfl F1.out.own _ rfl _ l (hs2.out _ F1.out.only) (by have := hdd.out; unfold lim47; omega) ?_; intro v2 w3 g1 g2 g3; have F2 := hide (fresh2 F1.out g1 g2 g3); obtain ⟨A2, n2, c2, rfl⟩ := own_form' g1; obtain ⟨p1, p2⟩ := HD.out w3 F2.out.only; clear g1 g2 g3))
      all_goals
        have E := hide ((F2.out.store G1.out hi).after (((Only.refl (fun k => k = b) w).drewN _).trans' G2.out))
        cases hfo : d.failed.off with
        | true =>
          go_wp2
          go_ret
          first
            | exact ⟨rfl, E.out⟩
            | exact ⟨rfl, E.out.drew⟩
        | false =>
          go_wp2
          all_goals
            go_ret
            first
              | exact ⟨rfl, E.out⟩
              | exact ⟨rfl, E.out.drew⟩
  · unfold DS.append
    rw [gate_code hc]
    generalize d.code at_ = c at *
    clear h hx
    go_enter Try.func69, Try.ntmps69
    go_wp2_with (go_at_call 76; refine hB.out.mono ?_; rintro e w1 ⟨rfl, rfl⟩)
    go_ret
    exact ⟨rfl, V, H.out, fun _ => .inl, Only.refl _ _⟩

theorem RefEnd.syn {w w2 : World} {b : Nat} {V : Nat → Value} {d : DS} (h : RefEnd w b V d w2) {i : Nat} (hi : i < 8) (n : Nat) : RefEnd w b V { d with syn := upd d.syn i n } (w2.setCell ⟨b, 9 + i, none⟩ (.int .i64 n)) := by
  obtain ⟨V', h1, h2, h3⟩ := h
  exact ⟨V', h1.set_syn hi n, h2, Only.setCell (S := fun k => k = b) (p := ⟨b, 9 + i, none⟩) h3 (.inl rfl) _⟩

set_option maxRecDepth 100000 in
set_option maxHeartbeats 1000000 in
theorem ref_replace {w : World} {b : Nat} {d : DS} {V : Nat → Value} (h : RefAt w b d V) (hok : d.Ok) (at_ : Int) (x : Value) (l : List UInt8) (hx : Rds w x (bytesV l)) (hxb : rdBlock x ≠ some b) (hl : l.length ≤ lim46) :
    Calls Try.prog 71 #[.pointer (some ⟨b, 0, none⟩), .int .i64 at_, x] w fun e w' => e = .returned (.int .i64 (d.replace at_ l).2) ∧ RefEnd w b V (d.replace at_ l).1 w' := by
  have hB := hide (ref_begin h at_)
  have HX := hide hx
  obtain ⟨A0, n0, c0, rfl⟩ := hx.form
  have hn0 : n0 = l.length := by obtain ⟨A, c, e, _⟩ := hx; injection e with _ e _; rw [e, bytesV_length]
  subst hn0
  have H := hide h
  by_cases hc : d.code at_ = 0
  · unfold DS.replace
    rw [gate_ref hc]
    rw [hc] at hB
    obtain ⟨h0, i, rfl, hi⟩ := code_zero hc
    rw [Int.toNat_natCast]
    have hU := hide (ref_used_N h hok)
    have hroom := h.cell_room
    have hr1 := hok.room
    have hr2 := hok.used
    have hlu : d.len i ≤ d.used := le_sumTo d.len hi
    have hroomN : ∀ n, (w.drewN n).cell? ⟨b, 0, none⟩ = some (.int .i64 d.room) := fun n => hroom
    obtain ⟨A, c, eV, -⟩ := h.data hi
    have hd0 := h.cell_data hi
    rw [eV] at hd0
    by_cases hfit : d.room < d.used - d.len i + l.length
    · have e : d.fits true l.length i = 221 := by unfold DS.fits; simp only [if_true]; rw [if_pos hfit]
      rw [e, if_pos (by decide)]
      have hL := hide hl
      have hl2 : l.length ≤ 70368744177664 := hl
      clear hl h hc h0 hok e hx eV
      go_enter Try.func71, Try.ntmps71
      go_wp2_with (go_at_call 76; refine hB.out.mono ?_; rintro e w1 ⟨rfl, rfl⟩)
      go_quiet ((go_at_call 47; exact hU.out _))
      go_wp2
      go_ret
      exact ⟨rfl, V, H.out.grow ((Only.refl _ w).drewN nq), fun _ => .inl, (Only.refl _ w).drewN nq⟩
    · have e : d.fits true l.length i = 0 := by unfold DS.fits; simp only [if_true]; rw [if_neg hfit]
      rw [e, if_neg (by decide)]
      have hF := hide (fun n => ref_fails (h.grow ((Only.refl _ w).drewN n)) hok.plan)
      have hL := hide hl
      have hl2 : l.length ≤ 16777216 := by omega
      clear hl h hc h0 hok e hx eV
      cases hfo : d.failed.off with
      | true =>
        rw [hfo] at hF
        go_enter Try.func71, Try.ntmps71
        go_wp2_with (go_at_call 76; refine hB.out.mono ?_; rintro e w1 ⟨rfl, rfl⟩)
        go_quiet ((go_at_call 47; exact hU.out _))
        go_wp2_with (go_at_call 86; refine (hF.out _).mono ?_; rintro e w1 ⟨rfl, g1, g2⟩; have G1 := hide g1; have G2 := hide g2; clear g1 g2)
        go_ret
        exact ⟨rfl, V, G1.out, fun _ => .inl, ((Only.refl (fun k => k = b) w).drewN _).trans' G2.out⟩
      | false =>
        rw [hfo] at hF
        go_enter Try.func71, Try.ntmps71
        go_wp2_with (go_at_call 76; refine hB.out.mono ?_; rintro e w1 ⟨rfl, rfl⟩)
        go_quiet ((go_at_call 47; exact hU.out _))
        go_wp2_with (go_at_call 86; refine (hF.out _).mono ?_; rintro e w1 ⟨rfl, g1, g2⟩; have G1 := hide g1; have G2 := hide g2; obtain ⟨A', c', eV, -⟩ := g1.data hi; have hd := g1.cell_data hi; have hf := g1.frozen (1 + i); have hs := g1.cell_syn hi; have hf9 := g1.frozen (9 + i); rw [eV] at hd; have HD := hide (show ∀ w2 : World, Only (fun _ => False) w1 w2 → w2.cell? ⟨b, 1 + i, none⟩ = some (.slice A' (d.failed.len i) c') ∧ w2.frozen? ⟨b, 1 + i, none⟩ = false ∧ w2.cell? ⟨b, 9 + i, none⟩ = some (.int .i64 (d.failed.syn i)) ∧ w2.frozen? ⟨b, 9 + i, none⟩ = false from fun w2 ho => ⟨ho.cell hd id, frozen_of_heap (ho.heap g1.blk id) _, ho.cell hs id, frozen_of_heap (ho.heap g1.blk id) _⟩); clear g1 g2 eV)
        have hi' : (i : Int) < 8 := by omega
        have hs1 := hide (show Src Try.prog 1 33 (.slice A0 l.length c0) _ (bytesV l) (w1.alloc (.cells #[] 5)).drew from (((HX.out.only ((Only.refl (fun _ => False) w).drewN _) (fun _ _ => id)).only G2.out (fun k hk e => hxb (by rw [hk, e]))).only ((Only.refl (fun _ => False) w1).alloc _).drew (fun _ _ => id)).src Try.underlying33 (bytesV_one _))
        go_region_law (refine step_app rfl _ _ 33 rfl (.slice (some ⟨w1.heap.size, 0, none⟩) 0 0) 0 [] rfl (made0d w1) _ rfl _ l hs1.out (by simp only [List.length_nil]; unfold lim47; omega) ?_; intro v1 w2 g1 g2 g3; have F1 := hide (fresh1 g1 g2 g3); obtain ⟨A1, n1, c1, rfl⟩ := own_form' g1; obtain ⟨p1, p2, p3, p4⟩ := HD.out w2 F1.out.only; clear g1 g2 g3)
        all_goals
          have E := hide (((F1.out.store G1.out hi).syn hi l.length).after (((Only.refl (fun k => k = b) w).drewN _).trans' G2.out))
          go_wp2
          go_ret
          first
            | exact ⟨rfl, E.out⟩
            | exact ⟨rfl, E.out.drew⟩
  · unfold DS.replace
    rw [gate_code hc]
    generalize d.code at_ = c at *
    clear h hx
    go_enter Try.func71, Try.ntmps71
    go_wp2_with (go_at_call 76; refine hB.out.mono ?_; rintro e w1 ⟨rfl, rfl⟩)
    go_ret
    exact ⟨rfl, V, H.out, fun _ => .inl, Only.refl _ _⟩

end Go.Proofs.Ytldhpbmcpmebaaa
