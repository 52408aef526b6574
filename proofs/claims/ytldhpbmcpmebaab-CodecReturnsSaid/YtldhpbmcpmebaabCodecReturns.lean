/- CodecReturns, walked. -/
import Derived.Test.YtldhpbmcpmebaabCmp02
import Derived.Test.YtldhpbmcpmebaabCodecCuts
set_option linter.unusedVariables false
set_option linter.unusedSimpArgs false
namespace Go.Proofs.Ytldhpbmcpmebaab.Cd
open Go.RowKit

theorem readUint_nat (l : List UInt8) (k : Nat) (h : k ≤ l.length) : readUint l k = rdUint l k := by
  unfold readUint
  rw [if_neg (by omega), Int.toNat_natCast]
theorem drop_le {l X t : List UInt8} {k : Nat} (h : l.drop k = X ++ t) (hX : X ≠ []) : k ≤ l.length := by
  rcases Nat.lt_or_ge l.length k with h1 | h1
  · rw [List.drop_eq_nil_of_le (by omega)] at h
    exact absurd (List.append_eq_nil_iff.1 h.symm).1 hX
  · exact h1
/-- What was written is read back. -/
theorem returns_facts (p t : List UInt8) (N : Nat) (hN : N < 18446744073709551616) (m : Int) (h0 : -9223372036854775808 ≤ m) (h1 : m ≤ 9223372036854775807) (s : ByteArray) (hs : s.size ≤ 64) (vs : List VD) (hv : AllOk vs) (h12 : vs.length ≤ 12) :
    ∃ a1 a2 a3 : Nat, readUint (p ++ leb N ++ leb (zig m) ++ leb s.size ++ s.data.toList ++ encRow vs ++ t) p.length = (N, a1, 0) ∧
      readUint (p ++ leb N ++ leb (zig m) ++ leb s.size ++ s.data.toList ++ encRow vs ++ t) a1 = (zig m, a2, 0) ∧
      readText (p ++ leb N ++ leb (zig m) ++ leb s.size ++ s.data.toList ++ encRow vs ++ t) a2 64 = (s, a3, 0) ∧
      readRow (p ++ leb N ++ leb (zig m) ++ leb s.size ++ s.data.toList ++ encRow vs ++ t) a3 = (vs, (p ++ leb N ++ leb (zig m) ++ leb s.size ++ s.data.toList ++ encRow vs).length, 0) := by
  obtain ⟨Y, hY⟩ : ∃ Y, p ++ leb N ++ leb (zig m) ++ leb s.size ++ s.data.toList ++ encRow vs ++ t = Y := ⟨_, rfl⟩
  rw [hY]
  have d0 : Y.drop p.length = leb N ++ (leb (zig m) ++ ((leb s.size ++ s.data.toList) ++ (encRow vs ++ t))) := by
    rw [← hY]
    simp only [List.append_assoc]
    exact List.drop_left
  have d1 := drop_app d0
  have d2 := drop_app d1
  have d3 := drop_app d2
  have e2 : leb s.size ++ s.data.toList ≠ [] := fun h => leb_ne _ (List.append_eq_nil_iff.1 h).1
  refine ⟨p.length + (leb N).length, p.length + (leb N).length + (leb (zig m)).length, p.length + (leb N).length + (leb (zig m)).length + (leb s.size ++ s.data.toList).length, ?_, ?_, ?_, ?_⟩
  · rw [readUint_nat _ _ (drop_le d0 (leb_ne _))]
    exact rdUint_leb hN d0
  · rw [readUint_nat _ _ (drop_le d1 (leb_ne _))]
    exact rdUint_leb (zig_lt h0 h1) d1
  · have hl := drop_le d2 e2
    unfold readText
    rw [if_neg (by omega), Int.toNat_natCast]
    exact rdText_enc (by show s.size ≤ 64; exact hs) (by omega) d2
  · have hl := drop_le d3 (encRow_ne vs)
    unfold readRow
    rw [if_neg (by omega), Int.toNat_natCast]
    rw [rdRow_enc hv h12 d3]
    have e : p.length + (leb N).length + (leb (zig m)).length + (leb s.size ++ s.data.toList).length + (encRow vs).length = (p ++ leb N ++ leb (zig m) ++ leb s.size ++ s.data.toList ++ encRow vs).length := by
      simp only [List.length_append]
      omega
    rw [e]

set_option maxRecDepth 100000 in
set_option maxHeartbeats 1000000 in
theorem codecReturns_any {w : World} (A B D : Option Addr) (n cap dn dcap tn tcap : Nat) (l d t : List UInt8) (hr : Rds w (.slice A n cap) (bytesV l)) (hd : Rds w (.slice B dn dcap) (bytesV d)) (ht : Rds w (.slice D tn tcap) (bytesV t)) (N : Nat) (hN : N < 18446744073709551616) (m : Int) (hm0 : -9223372036854775808 ≤ m) (hm1 : m ≤ 9223372036854775807) :
    Calls Try.prog 8 #[.slice A n cap, .slice B dn dcap, .slice D tn tcap, .int .u64 N, .int .i64 m] w fun e w' => e = .returned (.bool true) ∧ Only (fun _ => False) w w' := by
  have HNew := hide (new_any A n cap l hr 90 (by omega))
  have HD := hide (fun (w2 : World) (ho : Only (fun _ => False) w w2) => part_any B dn dcap d (hd.only ho fun _ _ => id))
  have HT := hide (fun (w2 : World) (ho : Only (fun _ => False) w w2) => part_any D tn tcap t (ht.only ho fun _ _ => id))
  have HNN := hide hN
  have HM := hide (And.intro hm0 hm1)
  clear hr hd ht hN hm0 hm1
  go_enter Try.func8, Try.ntmps8
  go_wp2_with fail
  refine HNew.out.mono ?_
  rintro e w1 ⟨g, rfl, hg, hC, hO⟩
  have C1 := hide hC
  have O1 := hide hO
  have hgw := hide hg
  clear hC hO hg
  go_wp2_with fail
  refine (int_any C1.out 13 (by omega) (by omega)).mono ?_
  rintro e w2 ⟨r, rfl, h0, h3, hC, hO⟩
  have C2 := hide hC
  have O2 : Hid (Only (fun _ => False) w w2) := O1.out.trans hO fun x hx e => by have := hgw.out; omega
  obtain ⟨r, rfl⟩ := Int.eq_ofNat_of_zero_le h0
  have hr1 : Hid (r < 13) := by show _ < _; omega
  clear hC hO h0
  go_wp2_with fail
  refine (cells_any C2.out r (by have := hr1.out; omega)).mono ?_
  rintro e w3 ⟨v, vs, rfl, hl, hv, hF, hC⟩
  obtain ⟨A3, m3, c3, rfl⟩ := own_form' hF.own
  obtain ⟨rfl, hrd⟩ := hF.rd hv
  have C3 := hide hC
  have O3 : Hid (Only (fun _ => False) w w3) := O2.out.trans hF.only fun x hx e => by have := hgw.out; omega
  have RD := hide hrd
  have h12 : Hid (vs.length ≤ 12) := by have := hr1.out; show _ ≤ _; omega
  have HV := hide hv
  have hTT : Hid (∀ k, (Value.slice A3 vs.length c3).ownBlock = some k → w2.heap.size ≤ k ∧ k < w3.heap.size) := fun k hk => ⟨hF.new k hk, hF.lt hk⟩
  have hgw2 : Hid (g < w2.heap.size) := C2.out.lt
  clear hC hF hrd hv hl
  go_wp2_with fail
  refine (text_any C3.out).mono ?_
  rintro e w4 ⟨_, rfl, ⟨s, rfl, hs⟩, hC, hO⟩
  have O4 : Hid (Only (fun _ => False) w w4) := O3.out.trans hO fun x hx e => by have := hgw.out; omega
  have RD4 := hide (RD.out.only hO fun k hk e => by have := (hTT.out k hk).1; have := hgw2.out; omega)
  have hTT4 : Hid (∀ k, (Value.slice A3 vs.length c3).ownBlock = some k → k < w4.heap.size) := fun k hk => Nat.lt_of_lt_of_le (hTT.out k hk).2 hO.size
  have HSZ := hide hs
  clear hC hO hs RD hTT
  go_wp2_with fail
  refine (HD.out w4 O4.out).mono ?_
  rintro e w5 ⟨k, rfl, hR, hk, rfl⟩
  have R5 := hide hR
  have hkn : k = (d.take 200).length := (rds_n hR).1
  have hp200 : Hid ((d.take 200).length ≤ 200) := by show _ ≤ _; rw [List.length_take]; omega
  obtain ⟨p, hp⟩ : ∃ p, d.take 200 = p := ⟨_, rfl⟩
  rw [hp] at R5 hkn hp200
  subst hkn
  clear hR hk hp
  go_wp2_with fail
  refine (HT.out w4 O4.out).mono ?_
  rintro e w5 ⟨k2, rfl, hR, hk, rfl⟩
  have T5 := hide hR
  have hq200 : Hid ((t.take 200).length ≤ 200) := by show _ ≤ _; rw [List.length_take]; omega
  obtain ⟨q, hq⟩ : ∃ p, t.take 200 = p := ⟨_, rfl⟩
  rw [hq] at T5 hq200
  clear hR hk hq
  have HFA := hide (returns_facts p q N HNN.out m HM.out.1 HM.out.2 s HSZ.out vs HV.out h12.out)
  obtain ⟨P, hP⟩ : ∃ P, p.length = P := ⟨_, rfl⟩
  have hPH := hide hP
  rw [hP] at HFA R5 ⊢
  clear hP
  go_wp2_with fail
  refine (appendUint_any _ p R5.out (by have := hp200.out; omega) N HNN.out).mono ?_
  rintro e w6 ⟨v6, rfl, F⟩
  obtain ⟨A6, n6, c6, rfl⟩ := own_form' F.own
  have F6 := hide F
  clear F
  have hl6 : Hid ((p ++ leb N).length ≤ 210) := by
    have h1 := hp200.out; have h2 := leb_len10 HNN.out
    show _ ≤ _; rw [List.length_append]; omega
  go_wp2_with fail
  refine (appendInt_any _ _ F6.out.rds (by have := hl6.out; omega) m HM.out.1 HM.out.2).mono ?_
  rintro e w7 ⟨v7, rfl, F⟩
  obtain ⟨A7, n7, c7, rfl⟩ := own_form' F.own
  have F7 := hide F
  have O7 := hide (F6.out.only.trans' F.only)
  clear F
  have hl7 : Hid ((p ++ leb N ++ leb (zig m)).length ≤ 220) := by
    have h1 := hl6.out; have h2 := leb_len10 (zig_lt HM.out.1 HM.out.2)
    show _ ≤ _; rw [List.length_append]; omega
  go_wp2_with fail
  refine (appendText_any _ _ F7.out.rds (by have := hl7.out; omega) s (by have := HSZ.out; omega)).mono ?_
  rintro e w8 ⟨v8, rfl, F⟩
  obtain ⟨A8, n8, c8, rfl⟩ := own_form' F.own
  have F8 := hide F
  have O8 := hide (O7.out.trans' F.only)
  clear F
  have hl8 : Hid ((p ++ leb N ++ leb (zig m) ++ leb s.size ++ s.data.toList).length ≤ 300) := by
    have h1 := hl7.out; have h2 := leb_len10 (show s.size < 18446744073709551616 by have := HSZ.out; omega); have h3 := data_len s; have h4 := HSZ.out
    show _ ≤ _; rw [List.length_append, List.length_append]; omega
  have HA := hide (appendRow_any (w := w8) (.slice A8 n8 c8) _ F8.out.rds (by have := hl8.out; omega) _ _ c3 vs (RD4.out.only O8.out fun _ _ => id) (fun k hk => Nat.lt_of_lt_of_le (hTT4.out k hk) O8.out.size) (by have := h12.out; omega))
  rw [rowCode_ok HV.out h12.out, if_pos rfl] at HA
  go_wp2_with fail
  refine HA.out.mono ?_
  rintro e w9 ⟨v9, rfl, F⟩
  obtain ⟨A9, n9, c9, rfl⟩ := own_form' F.own
  obtain rfl := own_n F.own
  have F9 := hide F
  have O9 := hide (O8.out.trans' F.only)
  clear F HA
  have hlE : Hid ((encRow vs).length ≤ 2000) := by
    have h12 := h12.out
    have hv := HV.out
    show _ ≤ _
    unfold encRow
    rw [List.length_append]
    have h1 := leb_len10 (show vs.length < 18446744073709551616 by omega)
    have h2 := flat_len (allOk_valid hv) (fun i hi => by rw [List.getD_eq_getElem?_getD, List.getElem?_eq_getElem hi]; exact (hv _ (List.getElem_mem hi)).2) vs.length (Nat.le_refl _)
    rw [List.take_length] at h2
    omega
  have hl9 : Hid ((p ++ leb N ++ leb (zig m) ++ leb s.size ++ s.data.toList ++ encRow vs).length ≤ 3000) := by
    have h1 := hl8.out; have h2 := hlE.out
    show _ ≤ _; rw [List.length_append]; omega
  obtain ⟨X, hX⟩ : ∃ X, p ++ leb N ++ leb (zig m) ++ leb s.size ++ s.data.toList ++ encRow vs = X := ⟨_, rfl⟩
  rw [hX] at F9 hl9 HFA ⊢
  obtain ⟨L, hL⟩ : ∃ L, X.length = L := ⟨_, rfl⟩
  rw [hL] at HFA ⊢
  have hLH := hide hL
  clear hX hL
  go_wp2_with (at_builtin; refine wp_app rfl _ _ 22 rfl (.slice A9 L c9) L X rfl (by have h := F9.out.own; rw [hLH.out] at h; exact h) _ rfl _ q ((T5.out.only O9.out fun _ _ => id).src Try.underlying22 (bytesV_one q)) (by have := hl9.out; have := hq200.out; unfold lim47; omega) ?_; intro v10 w10 g1 g2 g3; have F9b : Hid (Fresh w8 w9 (.slice A9 L c9) X) := (by { have h := F9.out; rw [hLH.out] at h; exact h }); have F10 := hide (F9b.out.push g1 g2 g3); obtain ⟨A10, n10, c10, rfl⟩ := own_form' g1; clear g1 g2 g3)
  obtain ⟨a1, a2, a3, f1, f2, f3, f4⟩ := HFA.out
  have hl10 : Hid ((X ++ q).length ≤ 9223372036854775000) := by
    have h1 := hl9.out; have h2 := hq200.out
    show _ ≤ _; rw [List.length_append]; omega
  have K10 : Hid (Only (fun _ => False) w4 w10) := O8.out.trans' F10.out.only
  have HR1 := hide (Uint_any _ _ P F10.out.rds (fun b hb => rds_lt F10.out.rds hb) hl10.out)
  rw [f1] at HR1
  have F2 := hide f2
  have F3 := hide f3
  have F4 := hide f4
  clear HFA f1 f2 f3 f4
  go_wp2_with fail
  refine HR1.out.mono ?_
  rintro e w11 ⟨rfl, hO⟩
  have J1 := hide hO
  clear hO HR1
  have HR2 := hide (Int_any _ _ a1 (F10.out.rds.only J1.out fun _ _ => id) (fun b hb => Nat.lt_of_lt_of_le (rds_lt F10.out.rds hb) J1.out.size) hl10.out)
  rw [F2.out, unzig_zig] at HR2
  go_wp2_with fail
  refine HR2.out.mono ?_
  rintro e w12 ⟨rfl, hO⟩
  have J2 := hide (J1.out.trans' hO)
  clear hO HR2
  have HR3 := hide (Text_any _ _ a2 64 (F10.out.rds.only J2.out fun _ _ => id) (fun b hb => Nat.lt_of_lt_of_le (rds_lt F10.out.rds hb) J2.out.size) hl10.out (by omega))
  rw [F3.out] at HR3
  go_wp2_with fail
  refine HR3.out.mono ?_
  rintro e w13 ⟨rfl, hO⟩
  have J3 := hide (J2.out.trans' hO)
  clear hO HR3
  have HR4 := hide (Row_any _ _ a3 (F10.out.rds.only J3.out fun _ _ => id) (fun b hb => Nat.lt_of_lt_of_le (rds_lt F10.out.rds hb) J3.out.size) hl10.out)
  rw [F4.out] at HR4
  go_wp2_with fail
  refine HR4.out.mono ?_
  rintro e w14 ⟨v14, rfl, F⟩
  obtain ⟨A14, n14, c14, rfl⟩ := own_form' F.own
  obtain ⟨rfl, hrd⟩ := F.rd HV.out
  have J4 := hide (J3.out.trans' F.only)
  have RD14 := hide hrd
  clear hrd HR4 F
  go_wp2_with fail
  refine (begun02_any _).mono ?_
  rintro e w15 ⟨rfl, hO⟩
  have J5 := hide (J4.out.trans' hO)
  have HCR := hide (compareRows_eq (c := c14) (d := c3) (RD14.out.only hO fun _ _ => id) (RD4.out.only (K10.out.trans' J5.out) fun _ _ => id) (by have := h12.out; omega))
  have O15 := hide (O4.out.trans' (K10.out.trans' J5.out))
  clear hO
  go_wp2_with fail
  refine HCR.out.mono ?_
  rintro e w16 ⟨rfl, hO⟩
  have O16 := hide (O15.out.trans' hO)
  clear hO
  go_wp2
  go_ret
  exact ⟨rfl, O16.out⟩

end Go.Proofs.Ytldhpbmcpmebaab.Cd
