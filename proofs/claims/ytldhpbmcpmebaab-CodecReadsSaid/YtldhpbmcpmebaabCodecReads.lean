/- CodecReads, walked. -/
import Derived.Test.YtldhpbmcpmebaabRd02i
import Derived.Test.YtldhpbmcpmebaabCmp02
set_option linter.unusedVariables false
set_option linter.unusedSimpArgs false
namespace Go.Proofs.Ytldhpbmcpmebaab.Cd
open Go.RowKit

theorem readRow_ok {l : List UInt8} {k : Int} {vs : List VD} {next : Nat} (h : readRow l k = (vs, next, 0)) : vs.length ≤ 12 ∧ AllOk vs := by
  unfold readRow at h
  split at h
  · simp at h
  · obtain ⟨h1, h2, _⟩ := rdRow_inv h
    exact ⟨h1, h2⟩
theorem readRow_zero' (l : List UInt8) (k : Int) (h : (readRow l k).2.2 ≠ 0) : (readRow l k).1 = [] := by
  unfold readRow at h ⊢
  split
  · rfl
  · rename_i h1
    rw [if_neg h1] at h
    unfold rdRow at h ⊢
    split
    · rename_i h2
      rw [if_pos h2] at h
      split
      · rfl
      · rename_i h3
        rw [if_neg h3] at h
        exact (rdCells_zero _ _ _ h).1
    · rfl
theorem readRow_all (l : List UInt8) (k : Int) : (readRow l k).1.length ≤ 12 ∧ AllOk (readRow l k).1 := by
  obtain ⟨⟨vs, nx, rc⟩, h⟩ : ∃ r, readRow l k = r := ⟨_, rfl⟩
  by_cases hc : rc = 0
  · subst hc
    rw [h]
    exact readRow_ok h
  · have := readRow_zero' l k (by rw [h]; exact hc)
    rw [this]
    exact ⟨by simp, fun v hv => by cases hv⟩

set_option maxRecDepth 100000 in
set_option maxHeartbeats 2000000 in
theorem codecReads_any {w : World} (A : Option Addr) (n cap : Nat) (d : List UInt8) (hr : Rds w (.slice A n cap) (bytesV d)) (k : Int) :
    Calls Try.prog 7 #[.slice A n cap, .int .i64 k] w fun e w' => e = .returned (.bool true) ∧ Only (fun _ => False) w w' := by
  have HP := hide (part_any A n cap d hr)
  have hl : Hid ((d.take 200).length ≤ 9223372036854775000) := by show _ ≤ _; rw [List.length_take]; omega
  obtain ⟨p, hp⟩ : ∃ p, d.take 200 = p := ⟨_, rfl⟩
  rw [hp] at HP hl
  have K := hide (fun (w2 : World) (m : Nat) (r : Rds w2 (.slice A m cap) (bytesV p)) => And.intro (Value_any _ p k r (fun b hb => rds_lt r hb) hl.out) (And.intro (refValue_any A m cap p k r hl.out) (And.intro (Row_any _ p k r (fun b hb => rds_lt r hb) hl.out) (refRow_any A m cap p k r hl.out))))
  have HAll := hide (readRow_all p k)
  obtain ⟨⟨⟨vk, vn, vst⟩, vx, vc⟩, hv⟩ : ∃ r, readVal p k = r := ⟨_, rfl⟩
  obtain ⟨⟨vs, rx, rc⟩, hrr⟩ : ∃ r, readRow p k = r := ⟨_, rfl⟩
  rw [hv, hrr] at K
  rw [hrr] at HAll
  clear hr hp hv hrr
  go_enter Try.func7, Try.ntmps7
  go_wp2_with fail
  refine HP.out.mono ?_
  rintro e w1 ⟨m, rfl, hR, hk, rfl⟩
  have R := hide hR
  clear hR hk
  go_wp2_with fail
  refine (K.out w m R.out).1.mono ?_
  rintro e w1 ⟨he, hO⟩
  simp only [aggV] at he
  subst he
  have O1 := hide hO
  have HB1 := hide (heap_alloc_new w1 (.cells #[.int .i64 vk, .int .i64 vn, .string vst] 24))
  have P1 := hide ((Only.refl (fun _ => False) w1).alloc (.cells #[.int .i64 vk, .int .i64 vn, .string vst] 24))
  have O1' := hide (O1.out.trans' P1.out)
  clear hO
  go_wp2_with fail
  refine (K.out _ m (R.out.only O1'.out fun _ _ => id)).2.1.mono ?_
  rintro e w2 ⟨he, hO⟩
  simp only [aggV] at he
  subst he
  have B1 := hide (hO.heap HB1.out id)
  have O2 := hide (O1'.out.trans' hO)
  have HB2 := hide (heap_alloc_new w2 (.cells #[.int .i64 vk, .int .i64 vn, .string vst] 24))
  have P2 := hide ((Only.refl (fun _ => False) w2).alloc (.cells #[.int .i64 vk, .int .i64 vn, .string vst] 24))
  have O2' := hide (O2.out.trans' P2.out)
  have B1' := hide (P2.out.heap B1.out id)
  clear hO
  go_wp2_with fail
  refine (K.out _ m (R.out.only O2'.out fun _ _ => id)).2.2.1.mono ?_
  rintro e w3 ⟨v3, rfl, F⟩
  obtain ⟨A3, n3, c3, rfl⟩ := own_form' F.own
  obtain ⟨rfl, hrd⟩ := F.rd HAll.out.2
  have RD3 := hide hrd
  have O3 := hide (O2'.out.trans' F.only)
  have B13 := hide (F.only.heap B1'.out id)
  have B23 := hide (F.only.heap HB2.out id)
  clear F hrd
  go_wp2_with fail
  refine (K.out _ m (R.out.only O3.out fun _ _ => id)).2.2.2.mono ?_
  rintro e w4 ⟨v4, rfl, F⟩
  obtain ⟨A4, n4, c4, rfl⟩ := own_form' F.own
  obtain ⟨rfl, hrd⟩ := F.rd HAll.out.2
  have RD4 := hide hrd
  have RD34 := hide (RD3.out.only F.only fun _ _ => id)
  have O4 := hide (O3.out.trans' F.only)
  have B14 := hide (F.only.heap B13.out id)
  have B24 := hide (F.only.heap B23.out id)
  clear F hrd
  go_wp2_with fail
  refine (begun02_any _).mono ?_
  rintro e w5 ⟨rfl, hO⟩
  have O5 := hide (O4.out.trans' hO)
  obtain ⟨x0, x1, x2, -⟩ := three_facts (hO.heap B14.out id)
  obtain ⟨z0, z1, z2, -⟩ := three_facts (hO.heap B24.out id)
  have HCR := hide (compareRows_eq (c := c3) (d := c4) (RD34.out.only hO fun _ _ => id) (RD4.out.only hO fun _ _ => id) (by have h12 : vs.length ≤ 12 := HAll.out.1; omega))
  clear hO
  go_wp2_with fail
  refine HCR.out.mono ?_
  rintro e w6 ⟨rfl, hO⟩
  have O6 := hide (O5.out.trans' hO)
  clear hO
  go_wp2
  go_ret
  exact ⟨rfl, O6.out⟩

end Go.Proofs.Ytldhpbmcpmebaab.Cd
