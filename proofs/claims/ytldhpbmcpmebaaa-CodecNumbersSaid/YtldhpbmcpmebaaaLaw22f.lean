/- begun, walked. -/
import Derived.Test.YtldhpbmcpmebaaaLaw22e
import Derived.Lib.SlBytesConst
set_option linter.unusedVariables false
set_option linter.unusedSimpArgs false
namespace Go.Proofs.Ytldhpbmcpmebaaa
open Go.RowKit

set_option maxRecDepth 100000 in
set_option maxHeartbeats 1000000 in
theorem begun22_any (w : World) : Calls Try.prog 17 #[] w fun e w' => e = .returned (.bool true) ∧ Only (fun _ => False) w w' := by
  have hN := hide (new_held w 3 (by omega) (by omega))
  have e1 := b1_code
  have e2 := b2_code
  have e3 := b3_code
  have e4 := b4_code
  have E1 := hide e1
  have E2 := hide e2
  have E3 := hide e3
  have E4 := hide e4
  clear e1 e2 e3 e4
  have kc := fun (w : World) (C : Array Value) (n c : Nat) => Lib.run_convert_bytes_const (P := Try.prog) w 33 5 C n c Try.underlying33 Try.underlying5
  go_enter Try.func17, Try.ntmps17
  go_wp2_with (go_at_call 13; refine hN.out.mono ?_; rintro e w1 ⟨b, S0, rfl, h1, h2, h3⟩; have A0 := hide h1; have O0 := hide h2; have N0 := hide h3; clear h1 h2 h3)
  refine (append_lit A0.out 0 [97, 98] _ (by decide)).mono ?_
  rintro e w2 ⟨rfl, S1, h1, h2⟩
  rw [show (DS.new (Int.toNat 3)) = b0 from rfl, E1.out]
  have A1 := hide (show Held w2 b b1 S1 from h1)
  have O1 := hide h2
  clear h1 h2
  go_wp2_with fail
  refine (sync_any A1.out.disk 0).mono ?_
  intro e w3 he
  obtain ⟨rfl, S2, h1, h2, h3⟩ := gate_tight he
  rw [E2.out]
  have A2 := hide (show Held w3 b b2 S2 from ⟨h1, h2⟩)
  have O2 := hide h3
  clear he h1 h2 h3
  go_wp2_with fail
  refine (append_lit A2.out 0 [99] _ (by decide)).mono ?_
  rintro e w4 ⟨rfl, S3, h1, h2⟩
  rw [E3.out]
  have A3 := hide (show Held w4 b b3 S3 from h1)
  have O3 := hide h2
  clear h1 h2
  go_wp2_with fail
  refine (append_lit A3.out 1 [100] _ (by decide)).mono ?_
  rintro e w5 ⟨rfl, S4, h1, h2⟩
  rw [E4.out]
  have A4 := hide (show Held w5 b b4 S4 from h1)
  have O4 := hide h2
  clear h1 h2
  go_wp2_with fail
  refine (crash_any A4.out.disk (.slice none 0 0) [] ⟨none, 0, rfl, Nat.le_refl _, by simp [maxLen], fun _ => rfl, (fun a h => by cases h), (fun a h => by cases h)⟩ (fun k hk => by cases hk)).mono ?_
  intro e w6 he
  obtain ⟨rfl, S5, h1, h2, h3⟩ := do_tight he
  have A5 := hide (show Held w6 b b5 S5 from ⟨h1, h2⟩)
  have O5 := hide h3
  clear he h1 h2 h3
  go_wp2_with fail
  obtain ⟨hok, V, hA, hS⟩ := A5.out.disk
  have hR := read_any hA hok 0
  rw [b5_code, if_pos rfl, show (Int.toNat 0) = 0 from rfl, b5_data] at hR
  have HR := hide hR
  clear hR hok hA hS
  refine HR.out.mono ?_
  rintro e w7 ⟨v, rfl, h1, h2, h3⟩
  have hs := run_str (Rds.own h1)
  obtain ⟨A', n', c', rfl⟩ := own_form' h1
  have O6 := hide h3
  clear h1 h2 h3
  go_wp2
  go_ret
  have ht := ((((O1.out.trans O2.out).trans O3.out).trans O4.out).trans O5.out).only
  refine ⟨?_, ((O0.out.trans ht fun x hx hs => absurd (N0.out x hs) (by omega)).trans' O6.out)⟩
  show Ending.returned (.bool ((strOf [97, 98]).toList == [97, 98])) = _
  rw [strOf_toList]
  rfl

end Go.Proofs.Ytldhpbmcpmebaaa
