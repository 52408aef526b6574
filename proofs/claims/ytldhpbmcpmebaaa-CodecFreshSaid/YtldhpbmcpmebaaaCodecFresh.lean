/- CodecFresh, walked. -/
import Derived.Test.YtldhpbmcpmebaaaCase02d
import Derived.Test.YtldhpbmcpmebaaaCod02h
import Derived.Deep.RegionWith
set_option linter.unusedVariables false
set_option linter.unusedSimpArgs false
namespace Go.Proofs.Ytldhpbmcpmebaaa.Cd
open Go.RowKit

def dots : List UInt8 := List.replicate 80 46
theorem dots_src (w : World) : Src Try.prog 1 9 (.string ⟨(List.append [46, 46, 46, 46, 46, 46, 46, 46, 46, 46, 46, 46, 46, 46, 46, 46, 46, 46, 46, 46, 46, 46, 46, 46, 46, 46, 46, 46, 46, 46, 46, 46, 46, 46, 46, 46, 46, 46, 46, 46] [46, 46, 46, 46, 46, 46, 46, 46, 46, 46, 46, 46, 46, 46, 46, 46, 46, 46, 46, 46, 46, 46, 46, 46, 46, 46, 46, 46, 46, 46, 46, 46, 46, 46, 46, 46, 46, 46, 46, 46]).toArray⟩) 80 (bytesV dots) w := by
  have h := Src.ofString w Try.underlying9 (strOf dots)
  exact h
theorem dots_len : dots.length = 80 := by decide

set_option maxRecDepth 100000 in
set_option maxHeartbeats 1000000 in
theorem codecFresh_any {w : World} (A B : Option Addr) (n cap dn dcap : Nat) (l d : List UInt8) (hr : Rds w (.slice A n cap) (bytesV l)) (hd : Rds w (.slice B dn dcap) (bytesV d)) (N : Nat) (hN : N < 18446744073709551616) :
    Calls Try.prog 11 #[.slice A n cap, .slice B dn dcap, .int .u64 N] w fun e w' => e = .returned (.bool true) ∧ Only (fun _ => False) w w' := by
  have HNew := hide (new_any A n cap l hr 90 (by omega))
  have HD := hide (fun (w2 : World) (ho : Only (fun _ => False) w w2) => part_any B dn dcap d (hd.only ho fun _ _ => id))
  have HNN := hide hN
  have hm : -9223372036854775808 ≤ IntKind.i64.wrap (N : Int) ∧ IntKind.i64.wrap (N : Int) ≤ 9223372036854775807 := by rw [IntKind.wrap_i64]; omega
  obtain ⟨M, hM⟩ : ∃ M, IntKind.i64.wrap (N : Int) = M := ⟨_, rfl⟩
  rw [hM] at hm
  have HMM := hide hm
  clear hr hd hN hm
  go_enter Try.func11, Try.ntmps11
  go_wp2_with fail
  refine HNew.out.mono ?_
  rintro e w1 ⟨g, rfl, hg, hC, hO⟩
  have C1 := hide hC
  have O1 := hide hO
  have hgw := hide hg
  clear hC hO hg
  go_wp2_with fail
  refine (int_any C1.out 3 (by omega) (by omega)).mono ?_
  rintro e w2 ⟨r, rfl, h0, h3, hC, hO⟩
  have C2 := hide hC
  have O2 : Hid (Only (fun _ => False) w w2) := O1.out.trans hO fun x hx e => by have := hgw.out; omega
  obtain ⟨r, rfl⟩ := Int.eq_ofNat_of_zero_le h0
  have hr1 : Hid (r < 3) := by show _ < _; omega
  clear hC hO h0
  have HC := hide (cells_any C2.out (1 + r) (by have := hr1.out; omega))
  have hcast : ((1 + r : Nat) : Int) = 1 + (r : Int) := by omega
  rw [hcast] at HC
  clear hcast
  go_wp2_with fail
  refine HC.out.mono ?_
  rintro e w3 ⟨v, vs, rfl, hl, hv, hF, hC⟩
  obtain ⟨A3, m3, c3, rfl⟩ := own_form' hF.own
  have HV := hide hv
  have F3 := hide hF
  have HL := hide hl
  have O3 : Hid (Only (fun _ => False) w w3) := O2.out.trans hF.only fun x hx e => by have := hgw.out; omega
  obtain ⟨rfl, hrd⟩ := hF.rd hv
  have RD := hide hrd
  have hTT : Hid (∀ k, (Value.slice A3 vs.length c3).ownBlock = some k → k < w3.heap.size) := fun k hk => hF.lt hk
  clear hF hC hl hv hrd
  go_wp2_with fail
  refine (HD.out w3 O3.out).mono ?_
  rintro e w4 ⟨k, rfl, hR, hk, rfl⟩
  have R4 := hide hR
  have hl4 : Hid ((d.take 200).length ≤ 200) := by show _ ≤ _; rw [List.length_take]; omega
  obtain ⟨p, hp⟩ : ∃ p, d.take 200 = p := ⟨_, rfl⟩
  rw [hp] at R4 hl4
  obtain ⟨m, hm⟩ : ∃ m, p.length = m := ⟨_, rfl⟩
  have HM := hide hm
  have hm200 : m ≤ 200 := by rw [← hm]; exact hl4.out
  clear hR hk hp hm
  go_wp2_with (first
    | (at_builtin; refine wp_app rfl _ _ 33 rfl (.slice none 0 0) 0 [] rfl (World.ownsRow_nil _ _ _ _) _ rfl _ p (R4.out.src Try.underlying33 (bytesV_one p)) (by have := hl4.out; simp; unfold lim47; omega) ?_; intro v5 w5 g1 g2 g3; have F5 := hide ((Fresh.nil w3).push g1 g2 g3); obtain ⟨A5, n5, c5, rfl⟩ := own_form' g1; clear g1 g2 g3)
    | (at_builtin; refine wp_app rfl _ _ 9 rfl (.slice A5 n5 c5) _ ([] ++ p) rfl F5.out.own _ rfl 80 dots (dots_src _) (by have := hl4.out; rw [dots_len]; simp; unfold lim47; omega) ?_; intro v6 w6 g1 g2 g3; have F6 := hide (F5.out.push g1 g2 g3); obtain ⟨A6, n6, c6, rfl⟩ := own_form' g1; obtain rfl : n6 = m + 80 := by { have h := own_n F6.out.own; rw [h, List.length_append, dots_len, List.nil_append, HM.out] }; have hmc : m ≤ c6 := by { obtain ⟨_, _, e, he⟩ := own_form_le g1; injection e with e1 e2 e3; subst e3; have h7 := HM.out; have h8 := dots_len; rw [List.length_append, List.nil_append] at he; omega }; have hcv := run_str F6.out.rds; have RK : Hid (Rds w6 (.slice A6 m c6) (bytesV p)) := (by { have h := rds_take_n F6.out.rds (m := m) (by rw [List.length_append, List.nil_append, HM.out]; omega); rw [List.nil_append, ← HM.out, List.take_left, HM.out] at h; exact h }); clear g1 g2 g3))
  have O6 := hide (O3.out.trans' F6.out.only)
  refine (appendUint_any _ p (RK.out) (by have := hl4.out; omega) N HNN.out).mono ?_
  rintro e w7 ⟨v7, rfl, F⟩
  obtain ⟨A7, n7, c7, rfl⟩ := own_form' F.own
  have K7 := hide F.only
  clear F
  go_wp2_with fail
  refine (appendInt_any _ p (RK.out.only K7.out fun _ _ => id) (by have := hl4.out; omega) M HMM.out.1 HMM.out.2).mono ?_
  rintro e w8 ⟨v8, rfl, F⟩
  obtain ⟨A8, n8, c8, rfl⟩ := own_form' F.own
  have K8 := hide (K7.out.trans' F.only)
  clear F
  go_wp2_with fail
  refine (appendText_any _ p (RK.out.only K8.out fun _ _ => id) (by have := hl4.out; omega) ⟨#[120, 121, 122]⟩ (by decide)).mono ?_
  rintro e w9 ⟨v9, rfl, F⟩
  obtain ⟨A9, n9, c9, rfl⟩ := own_form' F.own
  have K9 := hide (K8.out.trans' F.only)
  clear F
  have RD9 := hide (RD.out.only (F6.out.only.trans' K9.out) fun _ _ => id)
  have hvs : Hid (0 < vs.length) := by have := HL.out; show _ < _; omega
  obtain ⟨rb, ro, rfl, hT, x0, x1, x2⟩ := RD9.out.at_ 0 hvs.out
  have hv0 : Hid ((vs.getD 0 vd0).Fits) := RD9.out.fits 0 hvs.out
  simp only [Nat.zero_mul, Nat.add_zero] at x0 x1 x2
  have hvv : (vs.getD 0 vd0).valid = true := by
    rw [List.getD_eq_getElem?_getD, List.getElem?_eq_getElem hvs.out]
    exact (HV.out _ (List.getElem_mem hvs.out)).1
  have HA := hide (fun (w2 : World) (ho : Only (fun _ => False) w6 w2) => appendValue_any (w := w2) (.slice A6 m c6) p (RK.out.only ho fun _ _ => id) (by have := hl4.out; omega) (vs.getD 0 vd0) hv0.out)
  rw [hvv, if_pos rfl, if_pos rfl] at HA
  obtain ⟨⟨kd, nm, st⟩, hvd⟩ : ∃ v, vs.getD 0 vd0 = v := ⟨_, rfl⟩
  rw [hvd] at x0 x1 x2 HA
  simp only at x0 x1 x2
  have hpos : (0 : Int) < vs.length := by have := hvs.out; omega
  clear hvd hT hv0 hvv
  go_wp2
  go_region_with (go_at_call 43; refine (HA.out w9.drew K9.out.drew).mono ?_; rintro e w10 ⟨v10, rfl, F⟩; obtain ⟨A10, n10, c10, rfl⟩ := own_form' F.own; have K10 := hide (K9.out.drew.trans' F.only); clear F)
  all_goals
    go_wp2_with fail
    refine (appendRow_any (.slice A6 m c6) p (RK.out.only K10.out fun _ _ => id) (by have := hl4.out; omega) _ _ c3 vs (RD.out.only (F6.out.only.trans' K10.out) fun _ _ => id) (fun k hk => Nat.lt_of_lt_of_le (hTT.out k hk) (F6.out.only.trans' K10.out).size) (by have h1 := HL.out; have h2 := hr1.out; omega)).mono ?_
    rintro e w11 ⟨v11, rfl, F⟩
    obtain ⟨A11, n11, c11, rfl⟩ := own_form' F.own
    have K11 := hide (K10.out.trans' F.only)
    generalize rowCode vs = rc
    clear F
    go_wp2_with fail
    refine (begun02_any _).mono ?_
    rintro e w12 ⟨rfl, hO⟩
    have K12 := hide (K11.out.trans' hO)
    have O12 := hide (O6.out.trans' K12.out)
    have hcv2 := run_str (F6.out.rds.only K12.out fun _ _ => id)
    clear hO
    go_wp2
    go_ret
    exact ⟨rfl, O12.out⟩

end Go.Proofs.Ytldhpbmcpmebaaa.Cd
