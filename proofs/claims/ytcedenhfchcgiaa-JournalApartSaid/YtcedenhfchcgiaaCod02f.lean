/- The decoder: stop, begin, byte, uint, walked. -/
import Derived.Test.YtcedenhfchcgiaaCod02e
import Derived.Defers
import Derived.Recover
set_option linter.unusedVariables false
set_option linter.unusedSimpArgs false
namespace Go.Proofs.Ytcedenhfchcgiaa.Cd
open Go.RowKit

/-- The decoder's own panic. -/
abbrev stopE (c : Int) : Ending := .panicked [{ v := .iface 92 (.agg #[.int .i64 c]), recovered := false }]

theorem stop_any (p : Value) (c : Int) (w : World) : Calls Try.prog 51 #[p, .int .i64 c] w fun e w' => e = stopE c ∧ w = w' := by
  go_enter Try.func51, Try.ntmps51
  go_wp2
  exact ⟨rfl, rfl, rfl⟩

/-- A decoder lies at block g. -/
def Dec (w : World) (g : Nat) (v : Value) (k : Int) : Prop := w.heap[g]? = some (.cells #[v, .int .i64 k] 88 (0, 0))

theorem begin_bad {w : World} {g : Nat} {v : Value} {k : Int} {l : List UInt8} (h : Dec w g v k) (hv : Rds w v (bytesV l)) (hk : k < 0 ∨ (l.length : Int) < k) :
    Calls Try.prog 50 #[.pointer (some ⟨g, 0, none⟩)] w fun e w' => (∃ q, w' = w.drewN q) ∧ e = stopE 1 := by
  obtain ⟨A, n, c, rfl⟩ := rds_form hv
  have hn : n = l.length := by obtain ⟨A, c, e, _⟩ := hv; injection e with _ e _; rw [e, bytesV_length]
  subst hn
  have h0 : w.cell? ⟨g, 0, none⟩ = some (.slice A l.length c) := cell_of_heap h 0
  have h1 : w.cell? ⟨g, 1, none⟩ = some (.int .i64 k) := cell_of_heap h 1
  clear h hv
  by_cases hk0 : k < 0
  · have hb : decide (k < 0) = true := by simpa using hk0
    go_enter Try.func50, Try.ntmps50
    go_wp2
    go_quiet (fail)
    go_wp2_with (go_at_call 51; refine (stop_any _ _ _).mono ?_; rintro e w2 ⟨rfl, rfl⟩)
    exact ⟨rfl, ⟨nq, rfl⟩, rfl⟩
  · have hk1 : (l.length : Int) < k := by omega
    have hb : decide (k < 0) = false := by simpa using hk0
    clear hk
    go_enter Try.func50, Try.ntmps50
    go_wp2
    go_quiet (fail)
    go_wp2_with (go_at_call 51; refine (stop_any _ _ _).mono ?_; rintro e w2 ⟨rfl, rfl⟩)
    exact ⟨rfl, ⟨nq, rfl⟩, rfl⟩
theorem begin_ok {w : World} {g : Nat} {v : Value} {k : Int} {l : List UInt8} (h : Dec w g v k) (hv : Rds w v (bytesV l)) (h0' : 0 ≤ k) (hk : k ≤ l.length) :
    Calls Try.prog 50 #[.pointer (some ⟨g, 0, none⟩)] w fun e w' => (∃ q, w' = w.drewN q) ∧ e = .returned (.tuple #[]) := by
  obtain ⟨A, n, c, rfl⟩ := rds_form hv
  have hn : n = l.length := by obtain ⟨A, c, e, _⟩ := hv; injection e with _ e _; rw [e, bytesV_length]
  subst hn
  have h0 : w.cell? ⟨g, 0, none⟩ = some (.slice A l.length c) := cell_of_heap h 0
  have h1 : w.cell? ⟨g, 1, none⟩ = some (.int .i64 k) := cell_of_heap h 1
  have hb : decide (k < 0) = false := by simpa using h0'
  clear h hv
  go_enter Try.func50, Try.ntmps50
  go_wp2
  go_quiet (fail)
  go_wp2
  go_end0
  exact ⟨⟨nq, rfl⟩, rfl⟩

theorem byte_bad {w : World} {g : Nat} {v : Value} {k : Nat} {l : List UInt8} (h : Dec w g v k) (hv : Rds w v (bytesV l)) (hk : l.length ≤ k) :
    Calls Try.prog 54 #[.pointer (some ⟨g, 0, none⟩)] w fun e w' => (∃ q, w' = w.drewN q) ∧ e = stopE 20 := by
  obtain ⟨A, n, c, rfl⟩ := rds_form hv
  have hn : n = l.length := by obtain ⟨A, c, e, _⟩ := hv; injection e with _ e _; rw [e, bytesV_length]
  subst hn
  have h0 : w.cell? ⟨g, 0, none⟩ = some (.slice A l.length c) := cell_of_heap h 0
  have h1 : w.cell? ⟨g, 1, none⟩ = some (.int .i64 k) := cell_of_heap h 1
  clear h hv
  go_enter Try.func54, Try.ntmps54
  go_wp2
  go_quiet (fail)
  go_wp2_with (go_at_call 51; refine (stop_any _ _ _).mono ?_; rintro e w2 ⟨rfl, rfl⟩)
  exact ⟨rfl, ⟨nq, rfl⟩, rfl⟩

theorem byte_ok {w : World} {g : Nat} {v : Value} {k : Nat} {l : List UInt8} (h : Dec w g v k) (hv : Rds w v (bytesV l)) (hk : k < l.length) (hl : l.length ≤ 9223372036854775807) :
    Calls Try.prog 54 #[.pointer (some ⟨g, 0, none⟩)] w fun e w' => e = .returned (.int .u8 (l[k].toNat : Int)) ∧ Dec w' g v (k + 1 : Nat) ∧ Only (fun x => x = g) w w' := by
  have hv0 := hv
  obtain ⟨A, n, c, rfl⟩ := rds_form hv
  have hn : n = l.length := by obtain ⟨A, c, e, _⟩ := hv; injection e with _ e _; rw [e, bytesV_length]
  subst hn
  have h0 : w.cell? ⟨g, 0, none⟩ = some (.slice A l.length c) := cell_of_heap h 0
  have h1 : w.cell? ⟨g, 1, none⟩ = some (.int .i64 k) := cell_of_heap h 1
  have hf := frozen_of_heap h 1
  have H := hide h
  obtain ⟨b, o, rfl, hc⟩ : ∃ b o, A = some ⟨b, o, none⟩ ∧ w.cell? ⟨b, o + k, none⟩ = some (.int .u8 (l[k].toNat : Int)) := by
    obtain ⟨A', c', e, hle, _, hnil, hsp, hcell⟩ := hv
    injection e with e1 e2 e3
    subst e1 e3
    cases A with
    | none => have := hnil rfl; omega
    | some a =>
      have h2 := hsp a rfl (by rw [bytesV_length]; omega)
      have h3 := hcell a rfl k _ (bytesV_get l k hk)
      rw [addr_eta a h2] at h3
      exact ⟨a.block, a.off, by obtain ⟨ab, ao, s⟩ := a; simp only at h2; subst h2; rfl, h3⟩
  have hx := l[k].toNat_lt
  generalize l[k].toNat = x at *
  clear h hv hv0
  go_enter Try.func54, Try.ntmps54
  go_wp2
  go_quiet (fail)
  go_wp2
  go_quiet (fail)
  go_wp2
  go_ret
  refine ⟨rfl, ?_, Only.setCell (S := fun x => x = g) (p := ⟨g, 1, none⟩) ((Only.refl _ w).drewN _) (.inl rfl) _⟩
  show (((w.drewN _).setCell ⟨g, 1, none⟩ (.int .i64 ((k : Int) + 1))).heap[g]? : Option Obj) = _
  rw [heap_setCell_at (w := w.drewN _) H.out]
  simp

theorem or_shift (N c j : Nat) (hN : N < 2 ^ (7 * j)) (hc : N + c * 2 ^ (7 * j) < 18446744073709551616) : bits .or .u64 (N : Int) (IntKind.u64.wrap ((c : Int) * 2 ^ (7 * j))) = ((N + c * 2 ^ (7 * j) : Nat) : Int) := by
  have e : IntKind.u64.wrap ((c : Int) * 2 ^ (7 * j)) = ((c * 2 ^ (7 * j) : Nat) : Int) := by
    rw [IntKind.wrap_u64]
    have : ((c * 2 ^ (7 * j) : Nat) : Int) = (c : Int) * 2 ^ (7 * j) := by simp
    rw [← this]
    omega
  rw [e, u64_or_nat N (c * 2 ^ (7 * j)) (by omega) (by omega), Nat.or_comm, nat_join (7 * j) (c * 2 ^ (7 * j)) N (Nat.mul_mod_left _ _) hN, Nat.add_comm]
theorem and127 (c : Nat) (hc : c < 256) : bits .and .u8 (c : Int) 127 = ((c % 128 : Nat) : Int) := by
  have h := u8_and_nat c 127 hc (by omega)
  rw [show c &&& 127 = c % 128 from Nat.and_two_pow_sub_one_eq_mod c 7] at h
  exact h

/-- What a number is read as, from place at_ on: the number, the next place, the code. -/
def rdU (l : List UInt8) (at_ : Nat) : Nat → Nat → Nat → Nat × Nat × Int
  | 0, _, _ => (0, 0, 21)
  | f + 1, j, N =>
    if h : at_ + j < l.length then
      if l[at_ + j].toNat < 128 then
        if (0 < j ∧ l[at_ + j].toNat = 0) ∨ (j = 9 ∧ 1 < l[at_ + j].toNat) then (0, 0, 21) else (N + l[at_ + j].toNat * 2 ^ (7 * j), at_ + j + 1, 0)
      else rdU l at_ f (j + 1) (N + l[at_ + j].toNat % 128 * 2 ^ (7 * j))
    else (0, 0, 20)
def rdUint (l : List UInt8) (at_ : Nat) : Nat × Nat × Int := rdU l at_ 10 0 0
theorem rdU_step {l : List UInt8} {at_ f j N : Nat} (h : at_ + j < l.length) (hc : ¬ l[at_ + j].toNat < 128) : rdU l at_ (f + 1) j N = rdU l at_ f (j + 1) (N + l[at_ + j].toNat % 128 * 2 ^ (7 * j)) := by
  rw [rdU, dif_pos h, if_neg hc]
theorem rdU_bad {l : List UInt8} {at_ f j N : Nat} (h : at_ + j < l.length) (hc : l[at_ + j].toNat < 128) (hb : (0 < j ∧ l[at_ + j].toNat = 0) ∨ (j = 9 ∧ 1 < l[at_ + j].toNat)) : rdU l at_ (f + 1) j N = (0, 0, 21) := by
  rw [rdU, dif_pos h, if_pos hc, if_pos hb]
theorem rdU_ok {l : List UInt8} {at_ f j N : Nat} (h : at_ + j < l.length) (hc : l[at_ + j].toNat < 128) (hb : ¬ ((0 < j ∧ l[at_ + j].toNat = 0) ∨ (j = 9 ∧ 1 < l[at_ + j].toNat))) : rdU l at_ (f + 1) j N = (N + l[at_ + j].toNat * 2 ^ (7 * j), at_ + j + 1, 0) := by
  rw [rdU, dif_pos h, if_pos hc, if_neg hb]
theorem rdU_end {l : List UInt8} {at_ f j N : Nat} (h : ¬ at_ + j < l.length) : rdU l at_ (f + 1) j N = (0, 0, 20) := by
  rw [rdU, dif_neg h]
theorem pow_step (j N c : Nat) (hN : N < 2 ^ (7 * j)) (hc : c < 128) : N + c * 2 ^ (7 * j) < 2 ^ (7 * (j + 1)) := by
  have e : 2 ^ (7 * (j + 1)) = 128 * 2 ^ (7 * j) := by rw [Nat.mul_add, Nat.pow_add, Nat.mul_comm]
  rw [e]
  have : c * 2 ^ (7 * j) ≤ 127 * 2 ^ (7 * j) := Nat.mul_le_mul_right _ (by omega)
  omega
theorem pow_last (N c : Nat) (hN : N < 2 ^ (7 * 9)) (hc : c ≤ 1) : N + c * 2 ^ (7 * 9) < 18446744073709551616 := by
  have h1 : (2 : Nat) ^ (7 * 9) = 9223372036854775808 := by decide
  rw [h1] at hN ⊢
  omega
theorem pow_le (j : Nat) (hj : j ≤ 8) : 2 ^ (7 * (j + 1)) ≤ 9223372036854775808 := by
  have : (2 : Nat) ^ (7 * (j + 1)) ≤ 2 ^ 63 := Nat.pow_le_pow_right (by omega) (by omega)
  exact this

/-- How a reading function of the decoder ends. -/
def ReadsEnd (w : World) (g : Nat) (v : Value) (x : Value) (next : Nat) (code : Int) (e : Ending) (w' : World) : Prop :=
  Only (fun y => y = g) w w' ∧ ((code = 0 ∧ e = .returned x ∧ Dec w' g v next) ∨ (code ≠ 0 ∧ e = stopE code))

set_option maxRecDepth 100000 in
set_option maxHeartbeats 4000000 in
theorem uint_any {w : World} {g : Nat} {v : Value} {k : Nat} {l : List UInt8} (h : Dec w g v k) (hv : Rds w v (bytesV l)) (hvg : rdBlock v ≠ some g) (hl : l.length ≤ 9223372036854775000) (hk : k ≤ l.length) :
    Calls Try.prog 53 #[.pointer (some ⟨g, 0, none⟩)] w (ReadsEnd w g v (.int .u64 (rdUint l k).1) (rdUint l k).2.1 (rdUint l k).2.2) := by
  have H := hide h
  have HV := hide hv
  obtain ⟨r, hr⟩ : ∃ r, rdUint l k = r := ⟨_, rfl⟩
  rw [hr]
  have HR : Hid (rdU l k 10 0 0 = r) := hr
  clear h hv hr
  go_enter Try.func53, Try.ntmps53
  go_wp2
  go_loopw [3, 4] (fun n i wr => ∃ (j N : Nat), j ≤ 9 ∧ i = .int .i64 j ∧ n = .int .u64 N ∧ Hid (N < 2 ^ (7 * j)) ∧ Dec wr g v (k + j : Nat) ∧ Only (fun x => x = g) w wr ∧ Hid (rdU l k (10 - j) j N = r)) (fun _ i _ => 10 - (intOf i).toNat)
  case atStart => exact ⟨0, 0, by omega, rfl, rfl, (show (0 : Nat) < 2 ^ (7 * 0) by decide), H.out, Only.refl _ _, HR⟩
  case round =>
    obtain ⟨j, N, hj, rfl, rfl, hN, hD, hO, hR⟩ := hrel
    obtain ⟨f, hf⟩ : ∃ f, 10 - j = f + 1 := ⟨9 - j, by omega⟩
    rw [hf] at hR
    have HO := hide hO
    have hjI : (j : Int) ≤ 9 := by omega
    by_cases hlt : k + j < l.length
    · have HB := hide (byte_ok hD (HV.out.only hO fun x hx e => hvg (by rw [hx, e])) hlt (by omega))
      have hstep := hide (fun hc => rdU_step (f := f) (N := N) hlt hc)
      have hbadE := hide (fun hc hb => rdU_bad (f := f) (N := N) hlt hc hb)
      have hokE := hide (fun hc hb => rdU_ok (f := f) (N := N) hlt hc hb)
      have hc1 : l[k + j].toNat < 256 := l[k+j].toNat_lt
      generalize l[k + j].toNat = c at *
      clear hD hO
      have hj7 : IntKind.i64.wrap (7 * (j : Int)) = 7 * j := by rw [IntKind.wrap_i64]; omega
      by_cases hc2 : c < 128
      · by_cases hbad : (0 < j ∧ c = 0) ∨ (j = 9 ∧ 1 < c)
        · have hr := hbadE.out hc2 hbad
          rw [hR.out] at hr
          subst hr
          go_wp2_with fail
          refine HB.out.mono ?_
          rintro e w2 ⟨rfl, D2, O2⟩
          have O3 := hide (HO.out.trans' O2)
          clear D2 O2 hbadE hokE hstep HB HR
          rcases hbad with ⟨hj1, rfl⟩ | ⟨rfl, hc3⟩
          · go_wp2_with (go_at_call 51; refine (stop_any _ _ _).mono ?_; rintro e w3 ⟨rfl, rfl⟩)
            exact ⟨rfl, O3.out, .inr ⟨by decide, rfl⟩⟩
          · have hcz : ¬ c = 0 := by omega
            go_wp2_with (go_at_call 51; refine (stop_any _ _ _).mono ?_; rintro e w3 ⟨rfl, rfl⟩)
            exact ⟨rfl, O3.out, .inr ⟨by decide, rfl⟩⟩
        · have hr := hokE.out hc2 hbad
          rw [hR.out] at hr
          subst hr
          have hfit : N + c * 2 ^ (7 * j) < 18446744073709551616 := by
            by_cases hj9 : j = 9
            · subst hj9
              exact pow_last N c hN.out (by omega)
            · have h1 := pow_step j N c hN.out hc2
              have h2 := pow_le j (by omega)
              omega
          have hor := or_shift N c j hN.out hfit
          go_wp2_with fail
          refine HB.out.mono ?_
          rintro e w2 ⟨rfl, D2, O2⟩
          have O3 := hide (HO.out.trans' O2)
          have D3 := hide D2
          clear D2 O2 hbadE hokE hstep HB HR hfit
          by_cases hj0 : j = 0
          · subst hj0
            have hor0 : bits .or .u64 (N : Int) (c : Int) = ((N + c * 2 ^ (7 * 0) : Nat) : Int) := by
              rw [← hor]
              congr 1
              rw [IntKind.wrap_u64]
              simp
              omega
            clear hor
            go_wp2
            go_ret
            refine ⟨O3.out, .inl ⟨rfl, ?_, D3.out⟩⟩
            show Ending.returned (.int .u64 ((N : Int) + (c : Int))) = _
            simp
          · have hj1 : 0 < j := by omega
            have hcz : ¬ c = 0 := fun e => hbad (.inl ⟨hj1, e⟩)
            have HOR := hide hor
            clear hor
            by_cases hj9 : j = 9
            · have hc3 : ¬ 1 < c := fun e => hbad (.inr ⟨hj9, e⟩)
              have hq : ((j : Int) == 9) = true := by simp; omega
              have hq2 : decide (1 < (c : Int)) = false := by simp; omega
              have hq3 : ((c : Int) == 0) = false := by simp; omega
              clear hj9 hbad
              go_wp2
              all_goals
                go_ret
                exact ⟨O3.out, .inl ⟨rfl, by rw [← HOR.out]; rfl, D3.out⟩⟩
            · clear hbad
              go_wp2
              all_goals
                go_ret
                exact ⟨O3.out, .inl ⟨rfl, by rw [← HOR.out]; rfl, D3.out⟩⟩
      · by_cases hj9 : j = 9
        · subst hj9
          have hf0 : f = 0 := by omega
          subst hf0
          have hr := hstep.out hc2
          rw [hR.out, rdU] at hr
          subst hr
          go_wp2_with fail
          refine HB.out.mono ?_
          rintro e w2 ⟨rfl, D2, O2⟩
          have O3 := hide (HO.out.trans' O2)
          clear D2 O2 hbadE hokE hstep HB HR
          go_wp2_with (go_at_call 51; refine (stop_any _ _ _).mono ?_; rintro e w3 ⟨rfl, rfl⟩)
          exact ⟨rfl, O3.out, .inr ⟨by decide, rfl⟩⟩
        · have hand := and127 c hc1
          have hr := hide ((hstep.out hc2).symm.trans hR.out)
          obtain ⟨d, hd⟩ : ∃ d, c % 128 = d := ⟨_, rfl⟩
          have hN2 := hide (pow_step j N (c % 128) hN.out (by omega))
          have hor := or_shift N (c % 128) j hN.out (by have h1 := hN2.out; have h2 := pow_le j (by omega); omega)
          go_wp2_with fail
          refine HB.out.mono ?_
          rintro e w2 ⟨rfl, D2, O2⟩
          have O3 := hide (HO.out.trans' O2)
          have D3 := hide D2
          have hdw : IntKind.u64.wrap (d : Int) = d := by rw [IntKind.wrap_u64]; omega
          rw [hd] at hand hr hN2 hor
          clear D2 O2 hbadE hokE hstep HB HR hd
          go_wp2
          go_roundw
          case rel => exact ⟨j + 1, N + d * 2 ^ (7 * j), by omega, by go_num, by simp, hN2.out, D3.out, O3.out, by rw [show 10 - (j + 1) = f by omega]; exact hr.out⟩
          case measure => simp [intOf]; omega
    · have hr := rdU_end (f := f) (N := N) hlt
      rw [hR.out] at hr
      subst hr
      have HB := hide (byte_bad hD (HV.out.only hO fun x hx e => hvg (by rw [hx, e])) (by omega))
      clear hD hO HR
      go_wp2_with fail
      refine HB.out.mono ?_
      rintro e w2 ⟨⟨q, rfl⟩, rfl⟩
      exact ⟨rfl, HO.out.drewN q, .inr ⟨by decide, rfl⟩⟩

end Go.Proofs.Ytcedenhfchcgiaa.Cd
