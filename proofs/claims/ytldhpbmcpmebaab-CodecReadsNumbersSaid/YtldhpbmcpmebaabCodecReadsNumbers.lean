/- CodecReadsNumbers, walked. -/
import Derived.Test.YtldhpbmcpmebaabRd02f
set_option linter.unusedVariables false
set_option linter.unusedSimpArgs false
namespace Go.Proofs.Ytldhpbmcpmebaab.Cd
open Go.RowKit

set_option maxRecDepth 100000 in
set_option maxHeartbeats 1000000 in
theorem codecReadsNumbers_any {w : World} (A : Option Addr) (n cap : Nat) (d : List UInt8) (hr : Rds w (.slice A n cap) (bytesV d)) (k most : Int) (hm : most ≤ 9223372036854775807) :
    Calls Try.prog 4 #[.slice A n cap, .int .i64 k, .int .i64 most] w fun e w' => e = .returned (.bool true) ∧ Only (fun _ => False) w w' := by
  have HP := hide (part_any A n cap d hr)
  have hl : Hid ((d.take 200).length ≤ 9223372036854775000) := by show _ ≤ _; rw [List.length_take]; omega
  obtain ⟨p, hp⟩ : ∃ p, d.take 200 = p := ⟨_, rfl⟩
  rw [hp] at HP hl
  have HM := hide hm
  have K := hide (fun (w2 : World) (m : Nat) (r : Rds w2 (.slice A m cap) (bytesV p)) => And.intro (Uint_any _ p k r (fun b hb => rds_lt r hb) hl.out) (And.intro (refUint_any A m cap p k r hl.out) (And.intro (Int_any _ p k r (fun b hb => rds_lt r hb) hl.out) (And.intro (refInt_any A m cap p k r hl.out) (And.intro (Text_any _ p k most r (fun b hb => rds_lt r hb) hl.out hm) (refText_any A m cap p k most r hl.out hm))))))
  obtain ⟨⟨un, ux, uc⟩, hu⟩ : ∃ r, readUint p k = r := ⟨_, rfl⟩
  obtain ⟨⟨ts, tx, tc⟩, ht⟩ : ∃ r, readText p k most = r := ⟨_, rfl⟩
  rw [hu, ht] at K
  simp only at K
  obtain ⟨uz, huz⟩ : ∃ z, unzig un = z := ⟨_, rfl⟩
  rw [huz] at K
  clear hr hm hp hu ht huz
  go_enter Try.func4, Try.ntmps4
  go_wp2_with fail
  refine HP.out.mono ?_
  rintro e w1 ⟨m, rfl, hR, hk, rfl⟩
  have R := hide hR
  clear hR hk
  go_wp2_with fail
  refine (K.out w m R.out).1.mono ?_
  rintro e w1 ⟨rfl, hO⟩
  have O1 := hide hO
  clear hO
  go_wp2_with fail
  refine (K.out w1 m (R.out.only O1.out fun _ _ => id)).2.1.mono ?_
  rintro e w2 ⟨rfl, rfl⟩
  go_wp2_with fail
  refine (K.out w2 m (R.out.only O1.out fun _ _ => id)).2.2.1.mono ?_
  rintro e w3 ⟨rfl, hO⟩
  have O2 := hide (O1.out.trans' hO)
  clear hO
  go_wp2_with fail
  refine (K.out w3 m (R.out.only O2.out fun _ _ => id)).2.2.2.1.mono ?_
  rintro e w4 ⟨rfl, rfl⟩
  go_wp2_with fail
  refine (K.out w4 m (R.out.only O2.out fun _ _ => id)).2.2.2.2.1.mono ?_
  rintro e w5 ⟨rfl, hO⟩
  have O3 := hide (O2.out.trans' hO)
  clear hO
  go_wp2_with fail
  refine (K.out w5 m (R.out.only O3.out fun _ _ => id)).2.2.2.2.2.mono ?_
  rintro e w6 ⟨rfl, rfl⟩
  go_wp2_with fail
  refine (begun02_any _).mono ?_
  rintro e w7 ⟨rfl, hO⟩
  have O4 := hide (O3.out.trans' hO)
  clear hO
  go_wp2
  go_ret
  exact ⟨rfl, O4.out⟩

end Go.Proofs.Ytldhpbmcpmebaab.Cd
