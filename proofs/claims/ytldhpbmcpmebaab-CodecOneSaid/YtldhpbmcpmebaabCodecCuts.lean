/- CodecCuts, walked. -/
import Derived.Test.YtldhpbmcpmebaabRd02g
set_option linter.unusedVariables false
set_option linter.unusedSimpArgs false
namespace Go.Proofs.Ytldhpbmcpmebaab.Cd
open Go.RowKit

theorem rowCode_ok {vs : List VD} (hv : AllOk vs) (h : vs.length ≤ 12) : rowCode vs = 0 := by
  unfold rowCode
  rw [if_neg (by omega), if_pos (allOk_valid hv)]
theorem cut_row {vs : List VD} (hv : AllOk vs) (h : vs.length ≤ 12) {m : Nat} (hm : m < (encRow vs).length) : readRow ((encRow vs).take m) 0 = ([], 0, 20) := by
  unfold readRow
  rw [if_neg (by omega)]
  exact rdRow_cut (k := m) hv h hm (by simp)
theorem cut_uint {n : Nat} (hn : n < 18446744073709551616) {m : Nat} (hm : m < (leb n).length) : readUint ((leb n).take m) 0 = (0, 0, 20) := by
  unfold readUint
  rw [if_neg (by omega)]
  exact rdUint_cut (k := m) hn hm (by simp)
theorem slice_n {A : Option Addr} {n m c : Nat} : Value.slice A n c = .slice A m c ↔ n = m := by simp

set_option maxRecDepth 100000 in
set_option maxHeartbeats 1000000 in
theorem codecCuts_any {w : World} (A : Option Addr) (n cap : Nat) (l : List UInt8) (hr : Rds w (.slice A n cap) (bytesV l)) (N : Nat) (hN : N < 18446744073709551616) (at_ : Nat) (hat : at_ < 256) :
    Calls Try.prog 6 #[.slice A n cap, .int .u64 N, .int .u8 at_] w fun e w' => e = .returned (.bool true) ∧ Only (fun _ => False) w w' := by
  have HNew := hide (new_any A n cap l hr 90 (by omega))
  have HNN := hide hN
  clear hr hN
  go_enter Try.func6, Try.ntmps6
  go_wp2_with fail
  refine HNew.out.mono ?_
  rintro e w1 ⟨g, rfl, hg, hC, hO⟩
  have C1 := hide hC
  have O1 := hide hO
  have hgw := hide hg
  clear hC hO hg
  go_wp2_with fail
  refine (int_any C1.out 5 (by omega) (by omega)).mono ?_
  rintro e w2 ⟨r, rfl, h0, h3, hC, hO⟩
  have C2 := hide hC
  have O2 : Hid (Only (fun _ => False) w w2) := O1.out.trans hO fun x hx e => by have := hgw.out; omega
  obtain ⟨r, rfl⟩ := Int.eq_ofNat_of_zero_le h0
  have hr1 : Hid (r < 5) := by show _ < _; omega
  clear hC hO h0
  go_wp2_with fail
  refine (cells_any C2.out r (by have := hr1.out; omega)).mono ?_
  rintro e w3 ⟨v, vs, rfl, hl, hv, hF, hC⟩
  obtain ⟨A3, m3, c3, rfl⟩ := own_form' hF.own
  obtain ⟨rfl, hrd⟩ := hF.rd hv
  have O3 : Hid (Only (fun _ => False) w w3) := O2.out.trans hF.only fun x hx e => by have := hgw.out; omega
  have h12 : vs.length ≤ 12 := by have := hr1.out; omega
  have HA := hide (appendRow_any (w := w3) (.slice none 0 0) [] (rds_nil _) (by simp) _ _ c3 vs hrd (fun k hk => hF.lt hk) (by omega))
  rw [rowCode_ok hv h12, if_pos rfl, List.nil_append] at HA
  have HCut := hide (fun m hm => cut_row hv h12 (m := m) hm)
  have hne := List.length_pos_iff.2 (encRow_ne vs)
  have hlen : (encRow vs).length ≤ 9223372036854775000 := by
    unfold encRow
    rw [List.length_append]
    have h1 := leb_len10 (show vs.length < 18446744073709551616 by omega)
    have h2 := flat_len (allOk_valid hv) (fun i hi => by rw [List.getD_eq_getElem?_getD, List.getElem?_eq_getElem hi]; exact (hv _ (List.getElem_mem hi)).2) vs.length (Nat.le_refl _)
    rw [List.take_length] at h2
    omega
  obtain ⟨er, her⟩ : ∃ er, encRow vs = er := ⟨_, rfl⟩
  rw [her] at HA HCut hne hlen
  have HNE := hide (And.intro hne hlen)
  clear hC hF hrd hv hl h12 hne hlen her
  go_wp2_with fail
  refine HA.out.mono ?_
  rintro e w4 ⟨v4, rfl, F⟩
  obtain ⟨A4, n4, c4, rfl⟩ := own_form' F.own
  obtain rfl := own_n F.own
  obtain ⟨L, hL⟩ : ∃ L, er.length = L := ⟨_, rfl⟩
  have F4 := hide F
  rw [hL] at HNE ⊢
  obtain ⟨hL0, hLb⟩ := HNE.out
  have hLI : ¬ (L : Int) = 0 := by omega
  obtain ⟨q, hq⟩ : ∃ q, at_ % L = q := ⟨_, rfl⟩
  have hqL : q < L := by rw [← hq]; exact Nat.mod_lt _ hL0
  have hqI : (at_ : Int) % (L : Int) = q := by rw [← hq]; rfl
  have hnc : L ≤ c4 := by obtain ⟨_, _, e, he⟩ := own_form_le F.own; injection e with e1 e2 e3; omega
  have hqc : q ≤ c4 := by omega
  have R4 : Hid (Rds w4 (.slice A4 q c4) (bytesV (er.take q))) := by
    have h := rds_take_n F.rds (m := q) (by omega)
    exact h
  have O4 := hide (O3.out.trans' F.only)
  have hql : Hid ((er.take q).length ≤ 9223372036854775000) := by show _ ≤ _; rw [List.length_take]; omega
  have HC2 := hide (HCut.out q (by omega))
  have HR := hide (Row_any _ _ 0 R4.out (fun b hb => rds_lt R4.out hb) hql.out)
  rw [HC2.out] at HR
  clear F hq HCut
  go_wp2_with fail
  refine HR.out.mono ?_
  rintro e w5 ⟨v5, rfl, F5⟩
  obtain ⟨A5, n5, c5, rfl⟩ := own_form' F5.own
  have O5 := hide (O4.out.trans' F5.only)
  clear F5
  have HU := hide (appendUint_any (w := w5) (.slice none 0 0) [] (rds_nil _) (by simp) N HNN.out)
  rw [List.nil_append] at HU
  have HCut := hide (fun m hm => cut_uint HNN.out (m := m) hm)
  have hne := leb_pos N
  have hlen := leb_len10 HNN.out
  obtain ⟨eu, heu⟩ : ∃ er, leb N = er := ⟨_, rfl⟩
  rw [heu] at HU HCut hne hlen
  have HNE2 := hide (And.intro hne hlen)
  clear hne hlen heu
  go_wp2_with fail
  refine HU.out.mono ?_
  rintro e w6 ⟨v6, rfl, F⟩
  obtain ⟨A6, n6, c6, rfl⟩ := own_form' F.own
  obtain rfl := own_n F.own
  obtain ⟨M, hM⟩ : ∃ L, eu.length = L := ⟨_, rfl⟩
  have F6 := hide F
  rw [hM] at HNE2 ⊢
  obtain ⟨hM0, hMb⟩ := HNE2.out
  have hMI : ¬ (M : Int) = 0 := by omega
  obtain ⟨s, hs⟩ : ∃ q, at_ % M = q := ⟨_, rfl⟩
  have hsM : s < M := by rw [← hs]; exact Nat.mod_lt _ hM0
  have hsI : (at_ : Int) % (M : Int) = s := by rw [← hs]; rfl
  have hnc6 : M ≤ c6 := by obtain ⟨_, _, e, he⟩ := own_form_le F.own; injection e with e1 e2 e3; omega
  have hsc : s ≤ c6 := by omega
  have R6 : Hid (Rds w6 (.slice A6 s c6) (bytesV (eu.take s))) := by
    have h := rds_take_n F.rds (m := s) (by omega)
    exact h
  have O6 := hide (O5.out.trans' F.only)
  have hsl : Hid ((eu.take s).length ≤ 9223372036854775000) := by show _ ≤ _; rw [List.length_take]; omega
  have HC3 := hide (HCut.out s (by omega))
  have HR := hide (Uint_any _ _ 0 R6.out (fun b hb => rds_lt R6.out hb) hsl.out)
  rw [HC3.out] at HR
  clear F hs HCut
  go_wp2_with fail
  refine HR.out.mono ?_
  rintro e w7 ⟨rfl, hO⟩
  have O7 := hide (O6.out.trans' hO)
  clear hO
  go_wp2_with fail
  refine (begun02_any _).mono ?_
  rintro e w8 ⟨rfl, hO⟩
  have O8 := hide (O7.out.trans' hO)
  clear hO
  go_wp2
  go_ret
  exact ⟨rfl, O8.out⟩

end Go.Proofs.Ytldhpbmcpmebaab.Cd
