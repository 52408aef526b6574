/- CodecNumbers, walked. -/
import Derived.Test.YtldhpbmcpmebaaaCod02h
set_option linter.unusedVariables false
set_option linter.unusedSimpArgs false
namespace Go.Proofs.Ytldhpbmcpmebaaa.Cd
open Go.RowKit

set_option maxRecDepth 100000 in
set_option maxHeartbeats 1000000 in
theorem codecNumbers_any {w : World} (A : Option Addr) (n cap : Nat) (l : List UInt8) (hr : Rds w (.slice A n cap) (bytesV l)) (N : Nat) (hN : N < 18446744073709551616) (m : Int) (h0 : -9223372036854775808 ≤ m) (h1 : m ≤ 9223372036854775807) (s : ByteArray) (hs : s.size ≤ 140737488351232) :
    Calls Try.prog 5 #[.slice A n cap, .int .u64 N, .int .i64 m, .string s] w fun e w' => e = .returned (.bool true) ∧ Only (fun _ => False) w w' := by
  have HP := hide (part_any A n cap l hr)
  have hl : Hid ((l.take 200).length ≤ 200) := by show _ ≤ _; rw [List.length_take]; omega
  have K := hide (fun (w2 : World) (k : Nat) (r : Rds w2 (.slice A k cap) (bytesV (l.take 200))) => And.intro (appendUint_any _ _ r (Nat.le_trans hl.out (by omega)) N hN) (And.intro (refAppendUint_any _ _ r (Nat.le_trans hl.out (by omega)) N hN) (And.intro (appendInt_any _ _ r (Nat.le_trans hl.out (by omega)) m h0 h1) (And.intro (refAppendInt_any _ _ r (Nat.le_trans hl.out (by omega)) m h0 h1) (And.intro (appendText_any _ _ r (Nat.le_trans hl.out (by omega)) s hs) (refAppendText_any _ _ r (Nat.le_trans hl.out (by omega)) s hs))))))
  clear hr hN h0 h1 hs
  go_enter Try.func5, Try.ntmps5
  go_wp2_with fail
  refine HP.out.mono ?_
  rintro e w1 ⟨k, rfl, hR, hk, rfl⟩
  have R := hide hR
  clear hR hk
  go_wp2_with fail
  refine (begun02_any _).mono ?_
  rintro e w1 ⟨rfl, hO⟩
  have O1 := hide hO
  clear hO
  go_wp2_with fail
  refine (K.out w1 k (R.out.only O1.out fun _ _ => id)).1.mono ?_
  rintro e w2 ⟨v, rfl, F⟩
  obtain ⟨A1, n1, c1, rfl⟩ := own_form' F.own
  have O2 := hide (O1.out.trans' F.only)
  have F1 := hide F
  clear F
  go_wp2_with fail
  refine (K.out w2 k (R.out.only O2.out fun _ _ => id)).2.1.mono ?_
  rintro e w3 ⟨v, rfl, F⟩
  obtain ⟨A2, n2, c2, rfl⟩ := own_form' F.own
  have O3 := hide (O2.out.trans' F.only)
  have HS := hide (same_any (F1.out.rds.only F.only fun _ _ => id) F.rds)
  rw [decide_eq_true rfl] at HS
  clear F
  go_wp2_with fail
  refine HS.out.mono ?_
  rintro e w4 ⟨rfl, rfl⟩
  go_wp2_with fail
  refine (K.out w3 k (R.out.only O3.out fun _ _ => id)).2.2.1.mono ?_
  rintro e w4 ⟨v, rfl, F⟩
  obtain ⟨A3, n3, c3, rfl⟩ := own_form' F.own
  have O4 := hide (O3.out.trans' F.only)
  have F3 := hide F
  clear F
  go_wp2_with fail
  refine (K.out w4 k (R.out.only O4.out fun _ _ => id)).2.2.2.1.mono ?_
  rintro e w5 ⟨v, rfl, F⟩
  obtain ⟨A4, n4, c4, rfl⟩ := own_form' F.own
  have O5 := hide (O4.out.trans' F.only)
  have HS := hide (same_any (F3.out.rds.only F.only fun _ _ => id) F.rds)
  rw [decide_eq_true rfl] at HS
  clear F
  go_wp2_with fail
  refine HS.out.mono ?_
  rintro e w6 ⟨rfl, rfl⟩
  go_wp2_with fail
  refine (K.out w5 k (R.out.only O5.out fun _ _ => id)).2.2.2.2.1.mono ?_
  rintro e w6 ⟨v, rfl, F⟩
  obtain ⟨A5, n5, c5, rfl⟩ := own_form' F.own
  have O6 := hide (O5.out.trans' F.only)
  have F5 := hide F
  clear F
  go_wp2_with fail
  refine (K.out w6 k (R.out.only O6.out fun _ _ => id)).2.2.2.2.2.mono ?_
  rintro e w7 ⟨v, rfl, F⟩
  obtain ⟨A6, n6, c6, rfl⟩ := own_form' F.own
  have O7 := hide (O6.out.trans' F.only)
  have HS := hide (same_any (F5.out.rds.only F.only fun _ _ => id) F.rds)
  rw [decide_eq_true rfl] at HS
  clear F
  go_wp2_with fail
  refine HS.out.mono ?_
  rintro e w8 ⟨rfl, rfl⟩
  go_wp2
  go_ret
  exact ⟨rfl, O7.out⟩

end Go.Proofs.Ytldhpbmcpmebaaa.Cd
