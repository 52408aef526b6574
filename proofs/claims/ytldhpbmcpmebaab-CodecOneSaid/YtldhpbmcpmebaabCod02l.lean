/- The reference's AppendRow; the sizes of rows; walked. -/
import Derived.Test.YtldhpbmcpmebaabCod02k
import Derived.Test.YtldhpbmcpmebaabRow02
set_option linter.unusedVariables false
set_option linter.unusedSimpArgs false
namespace Go.Proofs.Ytldhpbmcpmebaab.Cd
open Go.RowKit

theorem fits_getD {w : World} {A : Option Addr} {n : Nat} {vs : List VD} {T : Nat → Prop} (h : RdRow w A n vs T) : ∀ i, i < vs.length → (vs.getD i vd0).Fits := h.fits

set_option maxRecDepth 100000 in
set_option maxHeartbeats 2000000 in
theorem refAppendRow_any {w : World} (x : Value) (l : List UInt8) (hx : Rds w x (bytesV l)) (hl : l.length ≤ 100000) (A : Option Addr) (n cap : Nat) (vs : List VD) {T : Nat → Prop} (h : RdRow w A n vs T) (hn : n ≤ 9223372036854775807) :
    Calls Try.prog 23 #[x, .slice A n cap] w (BytesCode w (if rowCode vs = 0 then l ++ encRow vs else []) (rowCode vs)) := by
  have HX := hide hx
  have H := hide h
  have HL := hide h.len
  have hll := hide hl
  obtain ⟨XA, xn, xc, rfl⟩ := rds_form hx
  by_cases h12 : 12 < n
  · have e : rowCode vs = 2 := by unfold rowCode; rw [if_pos (by have := h.len; omega)]
    rw [e, if_neg (by decide)]
    clear e h hx hl
    go_enter Try.func23, Try.ntmps23
    go_wp2
    go_ret2
    exact ⟨_, rfl, Fresh.nil w⟩
  · have HE : Hid (rowCode vs = if vs.all VD.valid then 0 else 10) := by show _ = _; unfold rowCode; rw [if_neg (by have := h.len; omega)]
    obtain ⟨rc, hrc⟩ : ∃ c, rowCode vs = c := ⟨_, rfl⟩
    rw [hrc] at HE ⊢
    obtain ⟨res, hres⟩ : ∃ r, (if rc = 0 then l ++ encRow vs else []) = r := ⟨_, rfl⟩
    have HRES := hide hres
    rw [hres]
    clear h hx hl hrc hres
    go_enter Try.func23, Try.ntmps23
    go_wp2
    go_loopw [16] (fun i wr => ∃ k : Nat, k ≤ n ∧ i = .int .i64 k ∧ Hid ((vs.take k).all VD.valid = true) ∧ Hid (Only (fun _ => False) w wr)) (fun i _ => n - (intOf i).toNat)
    case atStart => exact ⟨0, by omega, rfl, rfl, Only.refl _ _⟩
    case round =>
      obtain ⟨k, hk, rfl, HVk, HO⟩ := hrel
      by_cases hlt : k < n
      · have hk' : k < vs.length := by rw [← HL.out]; exact hlt
        obtain ⟨b, o, rfl, hT, c1, c2, c3⟩ := (H.out.only HO.out fun _ _ => id).at_ k hk'
        have HA := hide (all_take_succ vs hk')
        have HB := hide (fun (h : vs.all VD.valid = true) => all_getD h hk')
        obtain ⟨v, hvd⟩ : ∃ v, vs.getD k vd0 = v := ⟨_, rfl⟩
        rw [hvd] at c1 c2 c3 HA HB
        clear hvd hT
        have HC := hide (fun w2 => refvalid_any w2 v)
        cases hvv : v.valid with
        | true =>
          rw [hvv] at HC HA
          go_wp2_with fail
          refine (HC.out _).mono ?_
          rintro e w2 ⟨rfl, h2⟩
          have O2 := hide ((HO.out.alloc _).trans' h2)
          clear h2
          go_wp2
          go_roundw
          case rel => exact ⟨k + 1, by omega, by go_num, (by show _ = _; rw [HA.out, HVk.out]; rfl), O2.out⟩
          case measure => simp [intOf]; omega
        | false =>
          have hrc : rc = 10 := by
            rw [HE.out, if_neg]
            intro h
            have := HB.out h
            rw [hvv] at this
            cases this
          subst hrc
          have hres := HRES.out
          rw [if_neg (by decide)] at hres
          subst hres
          rw [hvv] at HC
          go_wp2_with fail
          refine (HC.out _).mono ?_
          rintro e w2 ⟨rfl, h2⟩
          have O2 := hide ((HO.out.alloc _).trans' h2)
          clear h2
          go_wp2
          go_ret2
          exact ⟨_, rfl, (Fresh.nil w).grow O2.out⟩
      · obtain rfl : k = n := by omega
        have hall : Hid (vs.all VD.valid = true) := by
          have := HVk.out
          rw [HL.out, List.take_length] at this
          exact this
        have hrc : rc = 0 := by rw [HE.out, if_pos hall.out]
        subst hrc
        have hres := HRES.out
        rw [if_pos rfl] at hres
        subst hres
        have HG := hide (fresh_any _ l (HX.out.only HO.out fun _ _ => id) (by have := hll.out; omega))
        go_wp2_with fail
        refine HG.out.mono ?_
        rintro e w2 ⟨v, rfl, F⟩
        obtain ⟨A1, n1, c1, rfl⟩ := own_form' F.own
        have F1 := hide F
        have HU := hide (refuint_any F k (by omega) (by have := hll.out; omega))
        clear F
        go_wp2_with fail
        refine HU.out.mono ?_
        rintro e w3 ⟨v, rfl, F, -⟩
        have F2 : Hid (Fresh w w3 v (l ++ leb k)) := ⟨F.own, HO.out.trans' F.only, fun k hk => Nat.le_trans HO.out.size (F.new k hk)⟩
        clear F HU HG F1
        go_wp2_with fail
        go_loopw [8, 32] (fun v i wr => ∃ j : Nat, j ≤ k ∧ i = .int .i64 j ∧ Fresh w wr v (l ++ leb k ++ (vs.take j).flatMap enc)) (fun _ i _ => k - (intOf i).toNat)
        case atStart => exact ⟨0, by omega, rfl, by simpa using F2.out⟩
        case round =>
          obtain ⟨j, hj, rfl, hF⟩ := hrel
          obtain ⟨A3, n3, c3', rfl⟩ := own_form' hF.own
          by_cases hlt : j < k
          · have hk' : j < vs.length := by rw [← HL.out]; exact hlt
            obtain ⟨b, o, rfl, hT, c1, c2, c3⟩ := (H.out.only hF.only fun _ _ => id).at_ j hk'
            have HA := hide (flat_take_succ vs hk')
            have hv := all_getD hall.out hk'
            have hfit := H.out.fits j hk'
            have hlen := flat_len hall.out H.out.fits j (by omega)
            obtain ⟨v, hvd⟩ : ∃ v, vs.getD j vd0 = v := ⟨_, rfl⟩
            rw [hvd] at c1 c2 c3 HA hv hfit
            have HV := hide (fun w2 (ho : Only (fun _ => False) wr w2) => refvalue_any (hF.grow ho) (by
              have h1 := hll.out
              have h2 := leb_len10 (show k < 18446744073709551616 by omega)
              rw [List.length_append, List.length_append]
              omega) v hv hfit)
            clear hF hvd hv hfit hlen hT
            go_wp2_with fail
            refine (HV.out _ ((Only.refl _ _).alloc _)).mono ?_
            rintro e w4 ⟨v', rfl, F, -⟩
            have F4 := hide F
            clear F
            go_wp2
            go_roundw
            case rel => exact ⟨j + 1, by omega, by go_num, by rw [HA.out, ← List.append_assoc]; exact F4.out⟩
            case measure => simp [intOf]; omega
          · obtain rfl : j = k := by omega
            have F4 := hide hF
            clear hF
            go_wp2
            go_ret2
            refine ⟨_, rfl, ?_⟩
            have := F4.out
            rw [show vs.take j = vs from by rw [HL.out, List.take_length], List.append_assoc] at this
            unfold encRow
            rw [← HL.out]
            exact this

def sizeR (vs : List VD) : Nat := if rowCode vs = 0 then (encRow vs).length else 0
theorem sizeV_valid {v : VD} (h : v.valid = true) : sizeV v = (enc v).length := by unfold sizeV; rw [if_pos h]

set_option maxRecDepth 100000 in
set_option maxHeartbeats 1000000 in
theorem rowSize_any {w : World} (A : Option Addr) (n cap : Nat) (vs : List VD) {T : Nat → Prop} (h : RdRow w A n vs T) (hn : n ≤ 9223372036854775807) :
    Calls Try.prog 24 #[.slice A n cap] w fun e w' => e = .returned (.int .i64 (sizeR vs)) ∧ Only (fun _ => False) w w' := by
  have HC := hide (checkRow_any A n cap vs h hn)
  have H := hide h
  have HL := hide h.len
  obtain ⟨z, hz⟩ : ∃ z, sizeR vs = z := ⟨_, rfl⟩
  rw [hz]
  unfold sizeR at hz
  by_cases hc : rowCode vs = 0
  · rw [if_pos hc] at hz
    rw [hc] at HC
    have h12 : n ≤ 12 := by
      unfold rowCode at hc
      have := h.len
      split at hc
      · cases hc
      · omega
    have hall : Hid (vs.all VD.valid = true) := by
      unfold rowCode at hc
      split at hc
      · cases hc
      · split at hc
        · assumption
        · cases hc
    have HZ : Hid ((leb n).length + (vs.flatMap enc).length = z) := by show _ = _; rw [← hz]; unfold encRow; rw [List.length_append, HL.out]
    have HU := hide (fun w2 => uintSize_any w2 n (by omega))
    have hl10 := hide (leb_len10 (show n < 18446744073709551616 by omega))
    clear h hc hn hz
    go_enter Try.func24, Try.ntmps24
    go_wp2_with fail
    refine HC.out.mono ?_
    rintro e w1 ⟨rfl, hO⟩
    have O1 := hide hO
    clear hO
    go_wp2_with fail
    refine (HU.out _).mono ?_
    rintro e w2 ⟨rfl, rfl⟩
    go_wp2_with fail
    go_loopw [3, 15] (fun v i wr => ∃ (k q : Nat), k ≤ n ∧ i = .int .i64 k ∧ v = .int .i64 q ∧ Hid (q = (leb n).length + ((vs.take k).flatMap enc).length) ∧ Hid (Only (fun _ => False) w wr)) (fun _ i _ => n - (intOf i).toNat)
    case atStart => exact ⟨0, (leb n).length, by omega, rfl, rfl, (by show _ = _; simp), O1⟩
    case round =>
      obtain ⟨k, q, hk, rfl, rfl, hq, HO⟩ := hrel
      by_cases hlt : k < n
      · have hk' : k < vs.length := by rw [← HL.out]; exact hlt
        obtain ⟨b, o, rfl, hT, c1, c2, c3⟩ := (H.out.only HO.out fun _ _ => id).at_ k hk'
        have HA := hide (flat_take_succ vs hk')
        have hv := all_getD hall.out hk'
        have hfit := H.out.fits k hk'
        have hlen := flat_len hall.out H.out.fits k (by omega)
        have hel := enc_len hv hfit
        obtain ⟨v, hvd⟩ : ∃ v, vs.getD k vd0 = v := ⟨_, rfl⟩
        rw [hvd] at c1 c2 c3 HA hv hfit hel
        have HS := hide (fun w2 => size_any w2 v hfit)
        rw [sizeV_valid hv] at HS
        obtain ⟨ez, hez⟩ : ∃ z, (enc v).length = z := ⟨_, rfl⟩
        rw [hez] at HS hel
        have hqb : q ≤ 2000 := by have h1 := hq.out; have h2 := hl10.out; omega
        have hq2 : Hid (q + ez = (leb n).length + ((vs.take (k + 1)).flatMap enc).length) := by show _ = _; rw [HA.out, List.length_append, hez, hq.out]; omega
        clear hvd hv hfit hlen hT hez
        go_wp2_with fail
        refine (HS.out _).mono ?_
        rintro e w4 ⟨rfl, hO⟩
        have O4 := hide ((HO.out.alloc _).trans' hO)
        clear hO
        go_wp2
        go_roundw
        case rel => exact ⟨k + 1, q + ez, by omega, by go_num, by go_num, hq2.out, O4⟩
        case measure => simp [intOf]; omega
      · obtain rfl : k = n := by omega
        have hqz : q = z := by rw [hq.out, ← HZ.out, show vs.take k = vs from by rw [HL.out, List.take_length]]
        subst hqz
        go_wp2
        go_ret
        exact ⟨rfl, HO.out⟩
  · rw [if_neg hc] at hz
    subst hz
    generalize rowCode vs = c at *
    clear h
    go_enter Try.func24, Try.ntmps24
    go_wp2_with fail
    refine HC.out.mono ?_
    rintro e w1 ⟨rfl, hO⟩
    have O1 := hide hO
    clear hO
    go_wp2
    go_ret
    exact ⟨rfl, O1.out⟩

set_option maxRecDepth 100000 in
theorem refRowSize_any {w : World} (A : Option Addr) (n cap : Nat) (vs : List VD) {T : Nat → Prop} (h : RdRow w A n vs T) (hn : n ≤ 9223372036854775807) :
    Calls Try.prog 25 #[.slice A n cap] w fun e w' => e = .returned (.int .i64 (sizeR vs)) ∧ Only (fun _ => False) w w' := by
  have HA := hide (refAppendRow_any (.slice none 0 0) [] (rds_nil _) (by simp) A n cap vs h hn)
  have hz : (if rowCode vs = 0 then ([] : List UInt8) ++ encRow vs else []).length = sizeR vs := by unfold sizeR; split <;> simp
  obtain ⟨q, hq⟩ : ∃ q, (if rowCode vs = 0 then ([] : List UInt8) ++ encRow vs else []) = q := ⟨_, rfl⟩
  obtain ⟨c, hc⟩ : ∃ c : Int, rowCode vs = c := ⟨_, rfl⟩
  rw [hq, hc] at HA
  rw [hq] at hz
  rw [← hz]
  clear hz hq hc h
  go_enter Try.func25, Try.ntmps25
  go_wp2_with fail
  refine HA.out.mono ?_
  rintro e w2 ⟨v2, rfl, F⟩
  obtain ⟨A2, n2, c2, rfl⟩ := own_form' F.own
  obtain rfl := own_n F.own
  have O2 := hide F.only
  clear F
  go_wp2
  go_ret
  exact ⟨rfl, O2.out⟩

end Go.Proofs.Ytldhpbmcpmebaab.Cd
