/- CodecValues, walked. -/
import Derived.Test.YtldhpbmcpmebaabCod02l
import Derived.Test.YtldhpbmcpmebaabCase02d
import Derived.Test.YtldhpbmcpmebaabCod02h
import Derived.Deep.RegionWith
import Derived.Deep.RegionHeld3
set_option linter.unusedVariables false
set_option linter.unusedSimpArgs false
namespace Go.Proofs.Ytldhpbmcpmebaab.Cd
open Go.RowKit

theorem two_vals (w : World) (a b : VD) (ha : a.Fits) (hb : b.Fits) : RdRow (w.alloc (.cells #[.int .i64 a.kind, .int .i64 a.n, .string a.s, .int .i64 b.kind, .int .i64 b.n, .string b.s] 24)) (some ⟨w.heap.size, 0, none⟩) 2 [a, b] (fun k => k = w.heap.size) := by
  refine ⟨rfl, fun i hi => ⟨w.heap.size, 0, rfl, rfl, ?_⟩, fun i hi => ?_⟩
  · have : i = 0 ∨ i = 1 := by simp at hi; omega
    rcases this with rfl | rfl
    · refine ⟨?_, ?_, ?_⟩ <;> rw [cell_of_heap (heap_alloc_new w _)] <;> rfl
    · refine ⟨?_, ?_, ?_⟩ <;> rw [cell_of_heap (heap_alloc_new w _)] <;> rfl
  · have : i = 0 ∨ i = 1 := by simp at hi; omega
    rcases this with rfl | rfl
    · exact ha
    · exact hb

set_option maxRecDepth 100000 in
set_option maxHeartbeats 8000000 in
theorem codecValues_any {w : World} (A B : Option Addr) (n cap dn dcap : Nat) (l d : List UInt8) (hr : Rds w (.slice A n cap) (bytesV l)) (hd : Rds w (.slice B dn dcap) (bytesV d)) (v : VD) (hf : v.Fits) (RA : Option Addr) (rn rcap : Nat) (vs0 : List VD) {T : Nat → Prop} (hrow : RdRow w RA rn vs0 T) (hT : ∀ k, T k → k < w.heap.size) (hrn : rn ≤ 9223372036854775807) :
    Calls Try.prog 3 #[.slice A n cap, .slice B dn dcap, .agg #[.int .i64 v.kind, .int .i64 v.n, .string v.s], .slice RA rn rcap] w fun e w' => e = .returned (.bool true) ∧ Only (fun _ => False) w w' := by
  have ho0 : Only (fun _ => False) w (w.alloc (.cells #[.int .i64 v.kind, .int .i64 v.n, .string v.s] 24)) := (Only.refl _ w).alloc _
  have HNew := hide (new_any A n cap l (hr.only ho0 fun _ _ => id) 90 (by omega))
  have HD := hide (fun (w2 : World) (ho : Only (fun _ => False) w w2) => part_any B dn dcap d (hd.only ho fun _ _ => id))
  have O0 := hide ho0
  have HB := hide (Box3.new w v)
  have HF := hide hf
  have HRow := hide hrow
  have HT := hide hT
  have HRN := hide hrn
  have HBlt : Hid (∀ b, rdBlock (.slice B dn dcap) = some b → b < w.heap.size) := fun b hb => rds_lt hd hb
  obtain ⟨vk, vn, vst⟩ := v
  clear hr hd hf hrow hT hrn ho0
  go_enter Try.func3, Try.ntmps3
  go_wp2_with fail
  refine HNew.out.mono ?_
  rintro e w1 ⟨g, rfl, hg, hC, hO⟩
  have C1 := hide hC
  have O1 := hide (O0.out.trans' hO)
  have B1 := hide (HB.out.only hO id)
  have hgw : Hid (w.heap.size < g) := by simp at hg; show _ < _; omega
  clear hC hO hg
  go_wp2_with fail
  refine (HD.out w1 O1.out).mono ?_
  rintro e w2 ⟨k, rfl, hR, hk, rfl⟩
  have R2 := hide hR
  have hl4 : Hid ((d.take 200).length ≤ 200) := by show _ ≤ _; rw [List.length_take]; omega
  obtain ⟨p, hp⟩ : ∃ p, d.take 200 = p := ⟨_, rfl⟩
  rw [hp] at R2 hl4
  have RB : Hid (∀ b, rdBlock (.slice B k dcap) = some b → ¬ b = g) := fun b hb e => by have := HBlt.out b (rdBlock_le hk hb); have := hgw.out; omega
  clear hR hk hp
  have HAny := hide (fun (W : World) (ho : Only (fun _ => False) w1 W) => any_any (C1.out.grow ho))
  have B2 := hide (fun (W : World) (ho : Only (fun x => x = g) w1 W) => B1.out.only ho (fun e => by have := hgw.out; omega))
  have O2 := hide (fun (W : World) (ho : Only (fun x => x = g) w1 W) => O1.out.trans ho (fun x hx e => by have := hgw.out; omega))
  obtain ⟨x0, x1, x2⟩ := B1.out
  simp only at x0 x1 x2
  go_wp2
  go_region_held3 (fun W => W.cell? ⟨w.heap.size, 0, none⟩ = some (.int .i64 vk) ∧ W.cell? ⟨w.heap.size, 1, none⟩ = some (.int .i64 vn) ∧ W.cell? ⟨w.heap.size, 2, none⟩ = some (.string vst)) (first | exact ⟨k0, k1, k2⟩ | exact k0 | exact k1 | exact k2 | go_keep) ((go_at_call 14; go_loud (refine (HAny.out w1.drew ((Only.refl _ _).drew)).mono ?_; rintro e w3 ⟨_, rfl, ⟨⟨yk, yn, yst⟩, rfl, hyv, hyf⟩, hC, hO⟩; have C3 := hide hC; have O3 := hide (((Only.refl (fun x => x = g) w1).drew).trans' hO); obtain ⟨k0, k1, k2⟩ := B2.out w3 O3.out; have YV := hide hyv; have YF := hide hyf; clear hC hO hyv hyf)))
  all_goals
    try simp [Act.put]
    go_wp2
    have RD3 := hide (two_vals w3 ⟨vk, vn, vst⟩ ⟨yk, yn, yst⟩ HF.out YF.out)
    have W3 := hide ((Only.refl (fun _ => False) w3).alloc (.cells #[.int .i64 vk, .int .i64 vn, .string vst, .int .i64 yk, .int .i64 yn, .string yst] 24))
    have K3 := hide ((O2.out w3 O3.out).trans' W3.out)
    have C4 := hide (C3.out.grow W3.out)
    have R4 := hide ((R2.out.only O3.out fun b hb e => RB.out b hb e).only W3.out fun _ _ => id)
    obtain ⟨w4, hw4⟩ : ∃ w4, w3.alloc (.cells #[.int .i64 vk, .int .i64 vn, .string vst, .int .i64 yk, .int .i64 yn, .string yst] 24) = w4 := ⟨_, rfl⟩
    rw [hw4] at RD3 K3 C4 R4 ⊢
    clear W3 hw4 k0 k1 k2 x0 x1 x2
    go_loopw [32] (fun i wr => ∃ k : Nat, k ≤ 2 ∧ i = .int .i64 k ∧ Hid (Only (fun _ => False) w4 wr)) (fun i _ => 2 - (intOf i).toNat)
    case atStart => exact ⟨0, by omega, rfl, Only.refl _ _⟩
    case round =>
      obtain ⟨k, hk, rfl, HO⟩ := hrel
      by_cases hlt : (k : Int) < 2
      · have hk2 : k < 2 := by omega
        obtain ⟨b, o, e, hT, c1, c2, c3⟩ := (RD3.out.only HO.out fun _ _ => id).at_ k hk2
        have hyf := RD3.out.fits k hk2
        injection e with e
        injection e with e1 e2 _
        subst e1 e2
        simp only [Nat.zero_add] at c1 c2 c3
        obtain ⟨⟨zk, zn, zs⟩, hz⟩ : ∃ z, ([⟨vk, vn, vst⟩, ⟨yk, yn, yst⟩] : List VD).getD k vd0 = z := ⟨_, rfl⟩
        rw [hz] at c1 c2 c3 hyf
        simp only at c1 c2 c3
        have HBx := hide (Box3.new wr ⟨zk, zn, zs⟩)
        have HA1 := hide (fun (W : World) (ho : Only (fun _ => False) wr W) => appendValue_any (w := W) (.slice B _ dcap) p ((R4.out.only HO.out fun _ _ => id).only ho fun _ _ => id) (by have := hl4.out; omega) ⟨zk, zn, zs⟩ hyf)
        have HA2 := hide (fun (W : World) (ho : Only (fun _ => False) wr W) => refAppendValue_any (w := W) (.slice B _ dcap) p ((R4.out.only HO.out fun _ _ => id).only ho fun _ _ => id) (by have := hl4.out; omega) ⟨zk, zn, zs⟩ hyf)
        have HS1 := hide (fun (W : World) => size_any W ⟨zk, zn, zs⟩ hyf)
        have HS2 := hide (fun (W : World) => refSize_any W ⟨zk, zn, zs⟩ hyf)
        obtain ⟨ls, hls⟩ : ∃ x, (if VD.valid ⟨zk, zn, zs⟩ then p ++ enc ⟨zk, zn, zs⟩ else []) = x := ⟨_, rfl⟩
        obtain ⟨rc, hrc⟩ : ∃ x : Int, (if VD.valid ⟨zk, zn, zs⟩ then 0 else 10) = x := ⟨_, rfl⟩
        rw [hls, hrc] at HA1 HA2
        obtain ⟨sz, hsz⟩ : ∃ x, sizeV ⟨zk, zn, zs⟩ = x := ⟨_, rfl⟩
        rw [hsz] at HS1 HS2
        clear hT hyf hz hls hrc hsz
        go_wp2_with fail
        refine (HA1.out _ ((Only.refl _ _).alloc _)).mono ?_
        rintro e w5 ⟨v5, rfl, F5⟩
        obtain ⟨A5, n5, c5, rfl⟩ := own_form' F5.own
        have F5h := hide F5
        have O5 := hide (((Only.refl _ wr).alloc (.cells #[.int .i64 zk, .int .i64 zn, .string zs] 24)).trans' F5.only)
        obtain ⟨j0, j1, j2⟩ := HBx.out.only F5.only id
        simp only at j0 j1 j2
        clear F5
        go_wp2_with fail
        refine (HA2.out w5 O5.out).mono ?_
        rintro e w6 ⟨v6, rfl, F6⟩
        obtain ⟨A6, n6, c6, rfl⟩ := own_form' F6.own
        have O6 := hide (O5.out.trans' F6.only)
        have HSame := hide (same_any (w := w6.drew) ((F5h.out.rds.only F6.only fun _ _ => id).only ((Only.refl (fun _ => False) w6).drew) fun _ _ => id) (F6.rds.only ((Only.refl (fun _ => False) w6).drew) fun _ _ => id))
        rw [decide_eq_true rfl] at HSame
        have m0 := F6.only.cell j0 id
        have m1 := F6.only.cell j1 id
        have m2 := F6.only.cell j2 id
        clear j0 j1 j2 F6
        go_wp2
        go_region_held3 (fun W => W.cell? ⟨wr.heap.size, 0, none⟩ = some (.int .i64 zk) ∧ W.cell? ⟨wr.heap.size, 1, none⟩ = some (.int .i64 zn) ∧ W.cell? ⟨wr.heap.size, 2, none⟩ = some (.string zs)) (first | assumption | exact ⟨by assumption, by assumption, by assumption⟩ | go_keep) (first
          | (go_at_call 17; go_loud (refine HSame.out.mono ?_; rintro e w7 ⟨rfl, rfl⟩))
          | (go_at_call 18; go_loud (refine (HS1.out _).mono ?_; rintro e w8 ⟨rfl, hO8⟩; have j0 : w8.cell? ⟨wr.heap.size, 0, none⟩ = some (.int .i64 zk) := hO8.cell (by assumption) id; have j1 : w8.cell? ⟨wr.heap.size, 1, none⟩ = some (.int .i64 zn) := hO8.cell (by assumption) id; have j2 : w8.cell? ⟨wr.heap.size, 2, none⟩ = some (.string zs) := hO8.cell (by assumption) id; have O8 := hide hO8; clear hO8))
          | (go_at_call 19; go_loud (refine (HS2.out _).mono ?_; rintro e w9 ⟨rfl, hO9⟩; have j0 : w9.cell? ⟨wr.heap.size, 0, none⟩ = some (.int .i64 zk) := hO9.cell (by assumption) id; have j1 : w9.cell? ⟨wr.heap.size, 1, none⟩ = some (.int .i64 zn) := hO9.cell (by assumption) id; have j2 : w9.cell? ⟨wr.heap.size, 2, none⟩ = some (.string zs) := hO9.cell (by assumption) id; have O9 := hide hO9; clear hO9)))
        all_goals
          try simp [Act.put]
          go_wp2
          go_roundw
          case rel =>
            refine ⟨k + 1, by omega, by go_num, ?_⟩
            first
              | exact hide (HO.out.trans' (((O6.out.drew).trans' O8.out).trans' O9.out))
              | exact hide (HO.out.trans' (((O6.out.drew).trans' O9.out).trans' O8.out))
          case measure => simp [intOf]; omega
      · obtain rfl : k = 2 := by omega
        have K4 := hide (K3.out.trans' HO.out)
        have C5 := hide (C4.out.grow HO.out)
        have R5 := hide (R4.out.only HO.out fun _ _ => id)
        go_wp2_with fail
        refine (int_any C5.out 14 (by omega) (by omega)).mono ?_
        rintro e w6 ⟨r, rfl, h0, h3, hC, hO⟩
        have C6 := hide hC
        have O6 : Hid (Only (fun _ => False) w w6) := K4.out.trans hO fun x hx e => by have := hgw.out; omega
        have R6 := hide (R5.out.only hO RB.out)
        obtain ⟨r, rfl⟩ := Int.eq_ofNat_of_zero_le h0
        have hr1 : Hid (r < 14) := by show _ < _; omega
        clear hC hO h0
        go_wp2_with fail
        refine (cells_any C6.out r (by have := hr1.out; omega)).mono ?_
        rintro e w7 ⟨v7, ws, rfl, hl, hv, hF, hC⟩
        obtain ⟨A7, m7, c7, rfl⟩ := own_form' hF.own
        obtain ⟨rfl, hrd⟩ := hF.rd hv
        have O7 : Hid (Only (fun _ => False) w w7) := O6.out.trans hF.only fun x hx e => by have := hgw.out; omega
        have R7 := hide (R6.out.only hF.only RB.out)
        have RD7 := hide hrd
        have T7 : Hid (∀ k, (Value.slice A7 ws.length c7).ownBlock = some k → k < w7.heap.size) := fun k hk => hF.lt hk
        have hwl : Hid (ws.length ≤ 1000) := by have := hr1.out; show _ ≤ _; omega
        clear hC hF hrd hv hl
        have H8 := hide (heap_alloc_new w7 (.cells #[.slice RA rn rcap, .slice A7 ws.length c7] 26))
        have O8' := hide ((Only.refl (fun _ => False) w7).alloc (.cells #[.slice RA rn rcap, .slice A7 ws.length c7] 26))
        go_wp2_with fail
        obtain ⟨w8, hw8⟩ : ∃ w8, w7.alloc (.cells #[.slice RA rn rcap, .slice A7 ws.length c7] 26) = w8 := ⟨_, rfl⟩
        rw [hw8] at H8 O8' ⊢
        clear hw8
        go_loopw [72] (fun i wr => ∃ k : Nat, k ≤ 2 ∧ i = .int .i64 k ∧ Hid (Only (fun _ => False) w8 wr)) (fun i _ => 2 - (intOf i).toNat)
        case atStart => exact ⟨0, by omega, rfl, Only.refl _ _⟩
        case round =>
          obtain ⟨j, hj, rfl, HO2⟩ := hrel
          by_cases hlt : (j : Int) < 2
          · have hX : ∃ XA xn xc xs, ∃ X : Nat → Prop, wr.cell? ⟨w7.heap.size, j, none⟩ = some (.slice XA xn xc) ∧ RdRow wr XA xn xs X ∧ (∀ k, X k → k < wr.heap.size) ∧ xn ≤ 9223372036854775807 := by
              have hc := HO2.out.heap H8.out id
              have hj2 : j = 0 ∨ j = 1 := by omega
              have hO1 : Only (fun _ => False) w7 wr := O8'.out.trans' HO2.out
              rcases hj2 with rfl | rfl
              · exact ⟨RA, rn, rcap, vs0, T, (cell_of_heap hc 0).trans rfl, HRow.out.only (O7.out.trans' hO1) fun _ _ => id, fun k hk => Nat.lt_of_lt_of_le (HT.out k hk) (O7.out.trans' hO1).size, HRN.out⟩
              · exact ⟨A7, ws.length, c7, ws, _, (cell_of_heap hc 1).trans rfl, RD7.out.only hO1 fun _ _ => id, fun k hk => Nat.lt_of_lt_of_le (T7.out k hk) hO1.size, by have := hwl.out; omega⟩
            obtain ⟨XA, xn, xc, xs, X, cx, hXR, hXT, hxn⟩ := hX
            have RX := hide (R7.out.only (O8'.out.trans' HO2.out) fun _ _ => id)
            have HA1 := hide (appendRow_any (w := wr) (.slice B _ dcap) p RX.out (by have := hl4.out; omega) XA xn xc xs hXR hXT hxn)
            have HA2 := hide (fun (W : World) (ho : Only (fun _ => False) wr W) => refAppendRow_any (w := W) (.slice B _ dcap) p (RX.out.only ho fun _ _ => id) (by have := hl4.out; omega) XA xn xc xs (hXR.only ho fun _ _ => id) hxn)
            have HS1 := hide (fun (W : World) (ho : Only (fun _ => False) wr W) => rowSize_any (w := W) XA xn xc xs (hXR.only ho fun _ _ => id) hxn)
            have HS2 := hide (fun (W : World) (ho : Only (fun _ => False) wr W) => refRowSize_any (w := W) XA xn xc xs (hXR.only ho fun _ _ => id) hxn)
            obtain ⟨ls, hls⟩ : ∃ x, (if rowCode xs = 0 then p ++ encRow xs else []) = x := ⟨_, rfl⟩
            rw [hls] at HA1 HA2
            clear hls hXR hXT hxn
            generalize rowCode xs = rc at *
            generalize sizeR xs = sz at *
            go_wp2_with fail
            refine HA1.out.mono ?_
            rintro e w9 ⟨v9, rfl, F9⟩
            obtain ⟨A9, n9, c9, rfl⟩ := own_form' F9.own
            have F9h := hide F9
            have O9 := hide F9.only
            clear F9
            go_wp2_with fail
            refine (HA2.out w9 O9.out).mono ?_
            rintro e w10 ⟨v10, rfl, F10⟩
            obtain ⟨A10, n10, c10, rfl⟩ := own_form' F10.own
            have O10 := hide (O9.out.trans' F10.only)
            have HSame := hide (same_any (w := w10) (F9h.out.rds.only F10.only fun _ _ => id) F10.rds)
            rw [decide_eq_true rfl] at HSame
            clear F10
            go_wp2_with fail
            refine HSame.out.mono ?_
            rintro e w11 ⟨rfl, rfl⟩
            go_wp2_with fail
            refine (HS1.out _ O10.out).mono ?_
            rintro e w11 ⟨rfl, hO⟩
            have O11 := hide (O10.out.trans' hO)
            clear hO
            go_wp2_with fail
            refine (HS2.out _ O11.out).mono ?_
            rintro e w12 ⟨rfl, hO⟩
            have O12 := hide (O11.out.trans' hO)
            clear hO
            go_wp2
            go_roundw
            case rel => exact ⟨j + 1, by omega, by go_num, hide (HO2.out.trans' O12.out)⟩
            case measure => simp [intOf]; omega
          · obtain rfl : j = 2 := by omega
            go_wp2_with fail
            refine (begun02_any _).mono ?_
            rintro e w9 ⟨rfl, hO⟩
            have O9 := hide (((O7.out.trans' O8'.out).trans' HO2.out).trans' hO)
            clear hO
            go_wp2
            go_ret
            exact ⟨rfl, O9.out⟩

end Go.Proofs.Ytldhpbmcpmebaab.Cd
