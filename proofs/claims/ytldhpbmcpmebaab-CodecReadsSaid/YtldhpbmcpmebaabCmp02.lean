/- The reference's Compare and CompareRows on equal rows, walked. -/
import Derived.Test.YtldhpbmcpmebaabRd02g
set_option linter.unusedVariables false
set_option linter.unusedSimpArgs false
namespace Go.Proofs.Ytldhpbmcpmebaab.Cd
open Go.RowKit

theorem bytesLess_irrefl (l : List UInt8) : Op.bytesLess l l = false := by
  induction l with
  | nil => rfl
  | cons a l ih => simp [Op.bytesLess, ih]

set_option maxRecDepth 100000 in
set_option maxHeartbeats 1000000 in
theorem compare_eq (w : World) (v : VD) : Calls Try.prog 80 #[.agg #[.int .i64 v.kind, .int .i64 v.n, .string v.s], .agg #[.int .i64 v.kind, .int .i64 v.n, .string v.s]] w fun e w' => e = .returned (.int .i64 0) ∧ Only (fun _ => False) w w' := by
  obtain ⟨k, n, s⟩ := v
  have hless := bytesLess_irrefl s.toList
  simp only
  go_enter Try.func80, Try.ntmps80
  go_wp2
  go_ret
  exact ⟨rfl, ((Only.refl _ w).alloc _).alloc _⟩

set_option maxRecDepth 100000 in
set_option maxHeartbeats 1000000 in
theorem compareRows_eq {w : World} {A B : Option Addr} {n c d : Nat} {vs : List VD} {T U : Nat → Prop} (h : RdRow w A n vs T) (h2 : RdRow w B n vs U) (hn : n ≤ 1000000) :
    Calls Try.prog 39 #[.slice A n c, .slice B n d] w fun e w' => e = .returned (.int .i64 0) ∧ Only (fun _ => False) w w' := by
  have H := hide h
  have H2 := hide h2
  have HL := hide h.len
  clear h h2
  go_enter Try.func39, Try.ntmps39
  go_wp2
  go_loopw [5] (fun i wr => ∃ k : Nat, k ≤ n ∧ i = .int .i64 k ∧ Hid (Only (fun _ => False) w wr)) (fun i _ => n - (intOf i).toNat)
  case atStart => exact ⟨0, by omega, rfl, Only.refl _ _⟩
  case round =>
    obtain ⟨k, hk, rfl, hO⟩ := hrel
    by_cases hlt : k < n
    · have hk' : k < vs.length := by rw [← HL.out]; exact hlt
      obtain ⟨b, o, rfl, hT, c1, c2, c3⟩ := (H.out.only hO.out fun _ _ => id).at_ k hk'
      obtain ⟨b', o', rfl, hT', d1, d2, d3⟩ := (H2.out.only hO.out fun _ _ => id).at_ k hk'
      obtain ⟨⟨kd, nm, st⟩, hvd⟩ : ∃ v, vs.getD k vd0 = v := ⟨_, rfl⟩
      rw [hvd] at c1 c2 c3 d1 d2 d3
      simp only at c1 c2 c3 d1 d2 d3
      have hC := hide (fun w2 => compare_eq w2 ⟨kd, nm, st⟩)
      have hk0 : (0 : Int) ≤ (k : Int) := by omega
      have hkn : (k : Int) < n := by omega
      clear hT hT' hvd
      go_wp2
      go_region_with (go_at_call 80; refine (hC.out wr.drew).mono ?_; rintro e w2 ⟨rfl, hO2⟩; have O2 := hide (hO.out.drew.trans' hO2); clear hO2)
      all_goals
        go_wp2
        go_roundw
        case rel => exact ⟨k + 1, by omega, by go_num, O2.out⟩
        case measure => simp [intOf]; omega
    · obtain rfl : k = n := by omega
      go_wp2
      go_ret
      exact ⟨rfl, hO.out⟩

end Go.Proofs.Ytldhpbmcpmebaab.Cd
