/- The reference's reading functions: Uint, Int, Text, walked. -/
import Derived.Test.YtldhpbmcpmebaabRd02d
set_option linter.unusedVariables false
set_option linter.unusedSimpArgs false
namespace Go.Proofs.Ytldhpbmcpmebaab.Cd
open Go.RowKit

theorem rds_cell {w : World} {A : Option Addr} {n c : Nat} {l : List UInt8} (h : Rds w (.slice A n c) (bytesV l)) {i : Nat} (hi : i < l.length) : ∃ b o, A = some ⟨b, o, none⟩ ∧ w.cell? ⟨b, o + i, none⟩ = some (.int .u8 (l[i].toNat : Int)) := by
  obtain ⟨A', c', e, hle, _, hnil, hsp, hcell⟩ := h
  injection e with e1 e2 e3
  subst e1 e3
  rw [bytesV_length] at hle hsp
  cases A with
  | none => have := hnil rfl; omega
  | some a =>
    have h2 := hsp a rfl (by omega)
    have h3 := hcell a rfl i _ (bytesV_get l i hi)
    rw [addr_eta a h2] at h3
    exact ⟨a.block, a.off, by obtain ⟨ab, ao, s⟩ := a; simp only at h2; subst h2; rfl, h3⟩
theorem rds_n {w : World} {A : Option Addr} {n c : Nat} {l : List UInt8} (h : Rds w (.slice A n c) (bytesV l)) : n = l.length ∧ n ≤ c := by
  obtain ⟨A', c', e, hle, _⟩ := h
  injection e with e1 e2 e3
  rw [bytesV_length] at e2 hle
  exact ⟨e2, by omega⟩

theorem bits_or_range (x y : Int) : ∃ n : Nat, n < 18446744073709551616 ∧ bits .or .u64 x y = n := by
  have h : bits .or .u64 x y = IntKind.u64.wrap ((BitVec.ofInt 64 x ||| BitVec.ofInt 64 y).toNat : Int) := rfl
  rw [IntKind.wrap_u64] at h
  refine ⟨(bits .or .u64 x y).toNat, ?_, ?_⟩ <;> omega

set_option maxRecDepth 100000 in
set_option maxHeartbeats 1000000 in
theorem refUint_bad {w : World} (A : Option Addr) (n c : Nat) (l : List UInt8) (k : Int) (hx : Rds w (.slice A n c) (bytesV l)) (hk : k < 0 ∨ (l.length : Int) < k) :
    Calls Try.prog 28 #[.slice A n c, .int .i64 k] w fun e w' => e = .returned (.tuple #[.int .u64 0, .int .i64 0, .int .i64 1]) ∧ w' = w := by
  obtain ⟨hn, _⟩ := rds_n hx
  subst hn
  clear hx
  by_cases hk0 : k < 0
  · go_enter Try.func28, Try.ntmps28
    go_wp2
    refine bodyPost_ret (v := .tuple #[.int .u64 0, .int .i64 0, .int .i64 1]) (by simp [results, Try.results28, go_sem]) rfl ?_
    exact ⟨rfl, rfl⟩
  · have hk1 : (l.length : Int) < k := by omega
    clear hk
    go_enter Try.func28, Try.ntmps28
    go_wp2
    refine bodyPost_ret (v := .tuple #[.int .u64 0, .int .i64 0, .int .i64 1]) (by simp [results, Try.results28, go_sem]) rfl ?_
    exact ⟨rfl, rfl⟩

set_option maxRecDepth 100000 in
set_option maxHeartbeats 4000000 in
theorem refUint_in {w : World} (A : Option Addr) (n c : Nat) (l : List UInt8) (k : Nat) (hx : Rds w (.slice A n c) (bytesV l)) (hl : l.length ≤ 9223372036854775000) (hk : k ≤ l.length) :
    Calls Try.prog 28 #[.slice A n c, .int .i64 k] w fun e w' => e = .returned (.tuple #[.int .u64 (rdUint l k).1, .int .i64 (rdUint l k).2.1, .int .i64 (rdUint l k).2.2]) ∧ w' = w := by
  obtain ⟨hn, _⟩ := rds_n hx
  subst hn
  have HX := hide hx
  obtain ⟨r, hr⟩ : ∃ r, rdUint l k = r := ⟨_, rfl⟩
  rw [hr]
  have HR : Hid (rdU l k 10 0 0 = r) := hr
  have hk0 : ¬ (k : Int) < 0 := by omega
  clear hx hr
  go_enter Try.func28, Try.ntmps28
  go_wp2
  go_loopw [7, 8] (fun n i wr => ∃ (j N : Nat), j ≤ 10 ∧ i = .int .i64 j ∧ n = .int .u64 N ∧ Hid (N < 2 ^ (7 * j)) ∧ Hid (rdU l k (10 - j) j N = r) ∧ Hid (wr = w)) (fun _ i _ => 10 - (intOf i).toNat)
  case atStart => exact ⟨0, 0, by omega, rfl, rfl, (show (0 : Nat) < 2 ^ (7 * 0) by decide), HR, rfl⟩
  case round =>
    obtain ⟨j, N, hj, rfl, rfl, hN, hR, hw⟩ := hrel
    have hw := hw.out
    subst hw
    have hkj : IntKind.i64.wrap ((k : Int) + j) = (k : Int) + j := by rw [IntKind.wrap_i64]; omega
    by_cases hj9 : j ≤ 9
    · obtain ⟨f, hf⟩ : ∃ f, 10 - j = f + 1 := ⟨9 - j, by omega⟩
      rw [hf] at hR
      have hjI : (j : Int) < 10 := by omega
      by_cases hlt : k + j < l.length
      · obtain ⟨b, o, rfl, hcell⟩ := rds_cell HX.out hlt
        have hstep := hide (fun hc => rdU_step (f := f) (N := N) hlt hc)
        have hbadE := hide (fun hc hb => rdU_bad (f := f) (N := N) hlt hc hb)
        have hokE := hide (fun hc hb => rdU_ok (f := f) (N := N) hlt hc hb)
        have hc1 : l[k + j].toNat < 256 := l[k+j].toNat_lt
        generalize l[k + j].toNat = c1 at *
        have hltI : (k : Int) + j < l.length := by omega
        have hge : ¬ (l.length : Int) ≤ (k : Int) + j := by omega
        have h00 : (0 : Int) ≤ (k : Int) + j := by omega
        have hj7 : IntKind.i64.wrap (7 * (j : Int)) = 7 * j := by rw [IntKind.wrap_i64]; omega
        by_cases hc2 : c1 < 128
        · have hc2I : (c1 : Int) < 128 := by omega
          by_cases hbad : (0 < j ∧ c1 = 0) ∨ (j = 9 ∧ 1 < c1)
          · have hr := hbadE.out hc2 hbad
            rw [hR.out] at hr
            subst hr
            clear hbadE hokE hstep HR
            rcases hbad with ⟨hj1, rfl⟩ | ⟨rfl, hc3⟩
            · have hj1I : (0 : Int) < j := by omega
              go_wp2
              all_goals
                refine bodyPost_ret (v := .tuple #[.int .u64 0, .int .i64 0, .int .i64 21]) (by simp [results, Try.results28, go_sem]) rfl ?_
                exact ⟨rfl, rfl⟩
            · have hcz : ¬ c1 = 0 := by omega
              have hc3I : (1 : Int) < c1 := by omega
              go_wp2
              all_goals
                refine bodyPost_ret (v := .tuple #[.int .u64 0, .int .i64 0, .int .i64 21]) (by simp [results, Try.results28, go_sem]) rfl ?_
                exact ⟨rfl, rfl⟩
          · have hr := hokE.out hc2 hbad
            rw [hR.out] at hr
            subst hr
            have hfit : N + c1 * 2 ^ (7 * j) < 18446744073709551616 := by
              by_cases hj9 : j = 9
              · subst hj9
                exact pow_last N c1 hN.out (by omega)
              · have h1 := pow_step j N c1 hN.out hc2
                have h2 := pow_le j (by omega)
                omega
            have hor := or_shift N c1 j hN.out hfit
            have HOR := hide hor
            clear hor
            clear hbadE hokE hstep HR hfit
            by_cases hj0 : j = 0
            · subst hj0
              simp only [Nat.add_zero] at hcell
              obtain rfl : N = 0 := by have := hN.out; simp at this; exact this
              have hor0 : bits .or .u64 0 (c1 : Int) = (c1 : Int) := by
                have := HOR.out
                rw [IntKind.wrap_u64] at this
                simp at this
                rw [show (c1 : Int) % 18446744073709551616 = c1 by omega] at this
                exact this
              have hk1 : IntKind.i64.wrap ((k : Int) + 1) = (k : Int) + 1 := by rw [IntKind.wrap_i64]; omega
              by_cases hc0 : c1 = 0
              · subst hc0
                have hor1 : bits .or .u64 0 0 = 0 := hor0
                go_wp2
                all_goals
                  refine bodyPost_ret (v := .tuple #[.int .u64 0, .int .i64 ((k : Int) + 1), .int .i64 0]) (by simp [results, Try.results28, go_sem]) rfl ?_
                  exact ⟨by simp, rfl⟩
              · go_wp2
                all_goals
                  refine bodyPost_ret (v := .tuple #[.int .u64 (c1 : Int), .int .i64 ((k : Int) + 1), .int .i64 0]) (by simp [results, Try.results28, go_sem]) rfl ?_
                  exact ⟨by simp, rfl⟩
            · have hj1 : 0 < j := by omega
              have hj1I : (0 : Int) < j := by omega
              have hcz : ¬ c1 = 0 := fun e => hbad (.inl ⟨hj1, e⟩)
              have hkj1 : IntKind.i64.wrap ((k : Int) + j + 1) = (k : Int) + j + 1 := by rw [IntKind.wrap_i64]; omega
              by_cases hj9 : j = 9
              · have hc3 : ¬ 1 < c1 := fun e => hbad (.inr ⟨hj9, e⟩)
                have hq : ((j : Int) == 9) = true := by simp; omega
                have hq2 : decide (1 < (c1 : Int)) = false := by simp; omega
                have hq3 : ((c1 : Int) == 0) = false := by simp; omega
                clear hj9 hbad
                go_wp2
                all_goals
                  refine bodyPost_ret (v := .tuple #[.int .u64 (bits .or .u64 (N : Int) (IntKind.u64.wrap ((c1 : Int) * 2 ^ (7 * j)))), .int .i64 ((k : Int) + j + 1), .int .i64 0]) (by simp [results, Try.results28, go_sem]) rfl ?_
                  exact ⟨by rw [HOR.out]; simp, rfl⟩
              · clear hbad
                go_wp2
                all_goals
                  refine bodyPost_ret (v := .tuple #[.int .u64 (bits .or .u64 (N : Int) (IntKind.u64.wrap ((c1 : Int) * 2 ^ (7 * j)))), .int .i64 ((k : Int) + j + 1), .int .i64 0]) (by simp [results, Try.results28, go_sem]) rfl ?_
                  exact ⟨by rw [HOR.out]; simp, rfl⟩
        · have hand := and127 c1 hc1
          have hc2I : ¬ (c1 : Int) < 128 := by omega
          have hr := hide ((hstep.out hc2).symm.trans hR.out)
          obtain ⟨d, hd⟩ : ∃ d, c1 % 128 = d := ⟨_, rfl⟩
          by_cases hj8 : j = 9
          · subst hj8
            have hf0 : f = 0 := by omega
            subst hf0
            have hr2 := hr.out
            rw [rdU] at hr2
            subst hr2
            have hdw : IntKind.u64.wrap (d : Int) = d := by rw [IntKind.wrap_u64]; omega
            rw [hd] at hand
            clear hbadE hokE hstep HR hd
            obtain ⟨N2, hN2, hb2⟩ := bits_or_range (N : Int) (IntKind.u64.wrap ((d : Int) * 2 ^ (7 * 9)))
            go_wp2
            go_roundw
            case rel => exact ⟨10, N2, by omega, by go_num, by first | exact hb2 | (rw [← hb2]; rfl), (by show _ < _; rw [pow70]; omega), rfl, trivial⟩
            case measure => simp [intOf]
          · have hN2 := hide (pow_step j N (c1 % 128) hN.out (by omega))
            have hor := or_shift N (c1 % 128) j hN.out (by have h1 := hN2.out; have h2 := pow_le j (by omega); omega)
            have hdw : IntKind.u64.wrap (d : Int) = d := by rw [IntKind.wrap_u64]; omega
            rw [hd] at hand hr hN2 hor
            clear hbadE hokE hstep HR hd
            go_wp2
            go_roundw
            case rel => exact ⟨j + 1, N + d * 2 ^ (7 * j), by omega, by go_num, by simp, hN2.out, by rw [show 10 - (j + 1) = f by omega]; exact hr.out, trivial⟩
            case measure => simp [intOf]; omega
      · have hr := rdU_end (f := f) (N := N) hlt
        rw [hR.out] at hr
        subst hr
        have hge : (l.length : Int) ≤ (k : Int) + j := by omega
        clear HR
        go_wp2
        refine bodyPost_ret (v := .tuple #[.int .u64 0, .int .i64 0, .int .i64 20]) (by simp [results, Try.results28, go_sem]) rfl ?_
        exact ⟨rfl, rfl⟩
    · obtain rfl : j = 10 := by omega
      have hr := hR.out
      rw [show 10 - 10 = 0 from rfl, rdU] at hr
      subst hr
      clear HR
      go_wp2
      refine bodyPost_ret (v := .tuple #[.int .u64 0, .int .i64 0, .int .i64 21]) (by simp [results, Try.results28, go_sem]) rfl ?_
      exact ⟨rfl, rfl⟩

end Go.Proofs.Ytldhpbmcpmebaab.Cd
