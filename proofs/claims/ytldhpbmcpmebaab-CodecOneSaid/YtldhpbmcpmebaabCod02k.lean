/- The reference's AppendValue and AppendRow; the sizes; walked. -/
import Derived.Test.YtldhpbmcpmebaabCod02j
import Derived.Test.YtldhpbmcpmebaabCod02e
import Derived.Test.YtldhpbmcpmebaabRd02
import Derived.Deep.RegionWith
set_option linter.unusedVariables false
set_option linter.unusedSimpArgs false
namespace Go.Proofs.Ytldhpbmcpmebaab.Cd
open Go.RowKit

set_option maxRecDepth 100000 in
set_option maxHeartbeats 1000000 in
theorem refAppendValue_any {w : World} (x : Value) (l : List UInt8) (hx : Rds w x (bytesV l)) (hl : l.length ≤ 100000) (v : VD) (hf : v.Fits) :
    Calls Try.prog 16 #[x, .agg #[.int .i64 v.kind, .int .i64 v.n, .string v.s]] w (BytesCode w (if v.valid then l ++ enc v else []) (if v.valid then 0 else 10)) := by
  have HX := hide hx
  have hll := hide hl
  have HB := hide (Box3.new w v)
  have HV := hide (fun w2 => refvalid_any w2 v)
  have HE := hide (fun (w0 w2 : World) (b : Value) (l2 : List UInt8) (F : Fresh w0 w2 b l2) (h2 : l2.length ≤ 1000000) (hv : v.valid = true) => refvalue_any F h2 v hv hf)
  obtain ⟨XA, xn, xc, rfl⟩ := rds_form hx
  obtain ⟨kd, nm, s⟩ := v
  obtain ⟨b, hb⟩ : ∃ b, VD.valid ⟨kd, nm, s⟩ = b := ⟨_, rfl⟩
  rw [hb] at HV HE ⊢
  clear hx hl hf hb
  obtain ⟨x0, x1, x2⟩ := HB.out
  cases b with
  | false =>
    go_enter Try.func16, Try.ntmps16
    go_wp2_with fail
    refine (HV.out _).mono ?_
    rintro e w2 ⟨rfl, h2⟩
    have O2 : Hid (Only (fun _ => False) w w2) := ((Only.refl _ _).alloc _).trans' h2
    clear h2 x0 x1 x2
    go_wp2
    go_ret2
    exact ⟨_, rfl, (Fresh.nil w).grow O2.out⟩
  | true =>
    go_enter Try.func16, Try.ntmps16
    go_wp2_with fail
    refine (HV.out _).mono ?_
    rintro e w2 ⟨rfl, h2⟩
    have O2 : Hid (Only (fun _ => False) w w2) := ((Only.refl _ _).alloc _).trans' h2
    have O1 := hide h2
    clear h2 x0 x1 x2
    obtain ⟨x0, x1, x2⟩ := HB.out.only O1.out id
    simp only at x0 x1 x2
    have HG := hide (fun (w3 : World) (ho : Only (fun _ => False) w w3) => fresh_any _ l (HX.out.only ho fun _ _ => id) (by have := hll.out; omega))
    go_wp2
    go_region_with (first
      | (go_at_call 62; go_loud (refine (HG.out w2.drew O2.out.drew).mono ?_; rintro e w3 ⟨v3, rfl, F⟩; obtain ⟨A3, n3, c3, rfl⟩ := own_form' F.own; have F1 : Hid (Fresh w w3 (.slice A3 n3 c3) l) := ⟨F.own, O2.out.drew.trans' (F.only), fun k hk => Nat.le_trans O2.out.size (F.new k hk)⟩; have K0 := F.only.cell x0 id; have K1 := F.only.cell x1 id; have K2 := F.only.cell x2 id; clear F))
      | (go_at_call 61; go_loud (refine (HE.out w w3 _ _ F1.out (by have := hll.out; omega) (by first | rfl | trivial)).mono ?_; rintro e w4 ⟨v4, rfl, F, -⟩; obtain ⟨A4, n4, c4, rfl⟩ := own_form' F.own; have F4 := hide F; clear F)))
    all_goals
      go_wp2
      go_ret2
      exact ⟨_, rfl, F4.out⟩

set_option maxRecDepth 100000 in
theorem uintSize_any (w : World) (n : Nat) (hn : n < 18446744073709551616) : Calls Try.prog 63 #[.int .u64 n] w fun e w' => e = .returned (.int .i64 (leb n).length) ∧ w' = w := by
  have hL := hide (leb_len10 hn)
  go_enter Try.func63, Try.ntmps63
  go_wp2
  go_loopw [0, 3] (fun i k wr => ∃ (m j : Nat), i = .int .u64 m ∧ m < 18446744073709551616 ∧ k = .int .i64 j ∧ j ≤ 10 ∧ Hid (j + (leb m).length = (leb n).length + 1) ∧ wr = w) (fun i _ _ => (intOf i).toNat)
  case atStart => exact ⟨n, 1, rfl, hn, rfl, by omega, (by show _ = _; omega), rfl⟩
  case round =>
    obtain ⟨m, j, rfl, hm, rfl, hj, hE, rfl⟩ := hrel
    by_cases hlt : m < 128
    · go_wp2
      go_ret
      have h := hE.out
      rw [leb_small hlt] at h
      simp at h
      exact ⟨by rw [h]; rfl, rfl⟩
    · have hj2 : Hid (j + 1 + (leb (m / 128)).length = (leb n).length + 1 ∧ j + 1 ≤ 10) := by
        have h := hE.out
        have h2 := hL.out
        have h3 := leb_pos (m / 128)
        rw [leb_big hlt, List.length_cons] at h
        exact ⟨by omega, by omega⟩
      go_wp2
      go_roundw
      case rel => exact ⟨m / 128, j + 1, by go_num, by omega, by go_num, hj2.out.2, hj2.out.1, trivial⟩
      case measure => simp [intOf]; omega

theorem alloc_only {w w2 : World} {o o2 : Obj} (h : w2 = (w.alloc o).alloc o2) : Only (fun _ => False) (w.alloc o) w2 ∧ Only (fun _ => False) w w2 := by
  subst h
  exact ⟨(Only.refl _ _).alloc _, ((Only.refl _ _).alloc _).alloc _⟩
def sizeV (v : VD) : Nat := if v.valid then (enc v).length else 0

set_option maxRecDepth 100000 in
set_option maxHeartbeats 1000000 in
theorem size_any (w : World) (v : VD) (hf : v.Fits) : Calls Try.prog 18 #[.agg #[.int .i64 v.kind, .int .i64 v.n, .string v.s]] w fun e w' => e = .returned (.int .i64 (sizeV v)) ∧ Only (fun _ => False) w w' := by
  have HB := hide (Box3.new w v)
  have HV := hide (fun w2 => valid_any w2 v)
  have hf0 := hf.n0
  have hf1 := hf.n1
  obtain ⟨z, hz⟩ : ∃ z, sizeV v = z := ⟨_, rfl⟩
  rw [hz]
  unfold sizeV at hz
  obtain ⟨b, hb⟩ : ∃ b, v.valid = b := ⟨_, rfl⟩
  rw [hb] at HV hz
  cases b with
  | false =>
    rw [if_neg (by decide)] at hz
    subst hz
    obtain ⟨kd, nm, s⟩ := v
    obtain ⟨x0, x1, x2⟩ := HB.out
    clear hf hb hf0 hf1
    go_enter Try.func18, Try.ntmps18
    go_wp2_with fail
    refine (HV.out _).mono ?_
    rintro e w2 ⟨rfl, h2⟩
    have O2 : Hid (Only (fun _ => False) w w2) := by rw [h2]; exact ((Only.refl _ _).alloc _).alloc _
    clear h2 x0 x1 x2
    go_wp2
    go_ret
    exact ⟨rfl, O2.out⟩
  | true =>
    rw [if_pos rfl] at hz
    have hk := valid_kind hb
    obtain ⟨kd, nm, s⟩ := v
    simp only at hk hf0 hf1
    have HZ := hide hz
    obtain ⟨x0, x1, x2⟩ := HB.out
    clear hf hb hz
    rcases hk with rfl | rfl | ⟨rfl, hn⟩ | rfl | ⟨rfl, hs⟩
    iterate 3
      · go_enter Try.func18, Try.ntmps18
        go_wp2_with fail
        refine (HV.out _).mono ?_
        rintro e w2 ⟨rfl, h2⟩
        obtain ⟨q1, q2⟩ := alloc_only h2
        have O1 := hide q1
        have O2 := hide q2
        clear q1 q2
        clear h2 x0 x1 x2
        obtain ⟨x0, x1, x2⟩ := HB.out.only O1.out id
        simp only at x0 x1 x2
        go_wp2
        go_ret
        exact ⟨by rw [← HZ.out]; simp [enc], O2.out⟩
    · have HZZ := hide (fun w2 => zigzag_any w2 nm hf0 hf1)
      have HU := hide (fun w2 => uintSize_any w2 (zig nm) (zig_lt hf0 hf1))
      have hl10 := leb_len10 (zig_lt hf0 hf1)
      have hz2 : Hid ((leb (zig nm)).length + 1 = z) := by show _ = _; rw [← HZ.out]; simp [enc]
      obtain ⟨q, hq⟩ : ∃ q, (leb (zig nm)).length = q := ⟨_, rfl⟩
      rw [hq] at HU hl10 hz2
      generalize zig nm = zz at *
      clear hq
      go_enter Try.func18, Try.ntmps18
      go_wp2_with fail
      refine (HV.out _).mono ?_
      rintro e w2 ⟨rfl, h2⟩
      obtain ⟨q1, q2⟩ := alloc_only h2
      have O1 := hide q1
      have O2 := hide q2
      clear q1 q2
      clear h2 x0 x1 x2
      obtain ⟨x0, x1, x2⟩ := HB.out.only O1.out id
      simp only at x0 x1 x2
      go_wp2_with fail
      refine (HZZ.out _).mono ?_
      rintro e w3 ⟨rfl, rfl⟩
      go_wp2_with fail
      refine (HU.out _).mono ?_
      rintro e w3 ⟨rfl, rfl⟩
      go_wp2
      go_ret
      exact ⟨by rw [← hz2.out]; simp; omega, O2.out⟩
    · have HU := hide (fun w2 => uintSize_any w2 s.size (by omega))
      have hl10 := leb_len10 (show s.size < 18446744073709551616 by omega)
      have hz2 : Hid (1 + (leb s.size).length + s.size = z) := by { show _ = _; rw [← HZ.out]; have h3 := data_len s; have e : enc ⟨5, nm, s⟩ = UInt8.ofNat 5 :: (leb s.size ++ s.data.toList) := rfl; rw [e, List.length_cons, List.length_append, h3]; omega }
      obtain ⟨q, hq⟩ : ∃ q, (leb s.size).length = q := ⟨_, rfl⟩
      rw [hq] at HU hl10 hz2
      have hsw : (s.size : Int) = IntKind.u64.wrap (s.size : Int) := by rw [IntKind.wrap_u64]; omega
      rw [hsw] at HU
      clear hq hsw
      go_enter Try.func18, Try.ntmps18
      go_wp2_with fail
      refine (HV.out _).mono ?_
      rintro e w2 ⟨rfl, h2⟩
      obtain ⟨q1, q2⟩ := alloc_only h2
      have O1 := hide q1
      have O2 := hide q2
      clear q1 q2
      clear h2 x0 x1 x2
      obtain ⟨x0, x1, x2⟩ := HB.out.only O1.out id
      simp only at x0 x1 x2
      go_wp2
      go_region_with (go_at_call 63; refine (HU.out w2.drew).mono ?_; rintro e w3 ⟨rfl, rfl⟩)
      all_goals
        go_wp2
        go_ret
        refine ⟨?_, O2.out.drew⟩
        show Ending.returned (.int .i64 (IntKind.i64.wrap (IntKind.i64.wrap (1 + (q : Int)) + (s.size : Int)))) = _
        have hz3 := hz2.out
        exact congrArg (fun z => Ending.returned (.int .i64 z)) (by simp only [IntKind.wrap_i64]; omega)

set_option maxRecDepth 100000 in
theorem refSize_any (w : World) (v : VD) (hf : v.Fits) : Calls Try.prog 19 #[.agg #[.int .i64 v.kind, .int .i64 v.n, .string v.s]] w fun e w' => e = .returned (.int .i64 (sizeV v)) ∧ Only (fun _ => False) w w' := by
  have HB := hide (Box3.new w v)
  have HA := hide (refAppendValue_any (w := w.alloc (.cells #[.int .i64 v.kind, .int .i64 v.n, .string v.s] 24)) (.slice none 0 0) [] (rds_nil _) (by simp) v hf)
  have hz : (if v.valid then ([] : List UInt8) ++ enc v else []).length = sizeV v := by unfold sizeV; split <;> simp
  obtain ⟨q, hq⟩ : ∃ q, (if v.valid then ([] : List UInt8) ++ enc v else []) = q := ⟨_, rfl⟩
  obtain ⟨c, hc⟩ : ∃ c : Int, (if v.valid then 0 else 10) = c := ⟨_, rfl⟩
  rw [hq, hc] at HA
  rw [hq] at hz
  rw [← hz]
  obtain ⟨kd, nm, s⟩ := v
  obtain ⟨x0, x1, x2⟩ := HB.out
  clear hz hq hc hf
  go_enter Try.func19, Try.ntmps19
  go_wp2_with fail
  refine HA.out.mono ?_
  rintro e w2 ⟨v2, rfl, F⟩
  obtain ⟨A2, n2, c2, rfl⟩ := own_form' F.own
  obtain rfl := own_n F.own
  have O2 := hide (((Only.refl _ w).alloc _).trans' F.only)
  clear F x0 x1 x2
  go_wp2
  go_ret
  exact ⟨rfl, O2.out⟩

end Go.Proofs.Ytldhpbmcpmebaab.Cd
