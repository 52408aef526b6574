/- DiskFull, walked. -/
import Derived.Test.YtldhpbmcpmebaaaCalls22
set_option linter.unusedVariables false
set_option linter.unusedSimpArgs false
namespace Go.Proofs.Ytldhpbmcpmebaaa
open Go.RowKit

theorem gate_room (d : DS) (a : Int) (ec : Nat → Int) (f g : DS → Nat → DS) (hf : ∀ d i, (f d i).room = d.room) (hg : ∀ d i, (g d i).room = d.room) : (d.gate a ec f g).1.room = d.room := by
  unfold DS.gate
  split
  · rfl
  · split
    · rfl
    · split
      · rfl
      · split
        · exact hf _ _
        · split
          · exact hg _ _
          · exact hf _ _
theorem play_room (d : DS) (c : CallD) : (d.play c).1.room = d.room := by
  unfold DS.play
  split
  · exact gate_room _ _ _ _ _ (fun _ _ => rfl) (fun _ _ => rfl)
  · split
    · exact gate_room _ _ _ _ _ (fun _ _ => rfl) (fun _ _ => rfl)
    · split
      · exact gate_room _ _ _ _ _ (fun _ _ => rfl) (fun _ _ => rfl)
      · split
        · exact gate_room _ _ _ _ _ (fun _ _ => rfl) (fun _ _ => rfl)
        · split
          · show (d.fail c.n).room = d.room
            unfold DS.fail
            split <;> rfl
          · split <;> rfl
/-- What gate's code 221 means. -/
theorem gate_221 {d : DS} {a : Int} {ec : Nat → Int} {f g : DS → Nat → DS} (h : (d.gate a ec f g).2 = 221) : (d.gate a ec f g).1 = d ∧ 0 ≤ a ∧ a < 8 ∧ ec a.toNat = 221 := by
  unfold DS.gate at h ⊢
  split at h
  · cases h
  · rename_i h1
    rw [if_neg h1]
    split at h
    · cases h
    · rename_i h2
      rw [if_neg h2]
      split at h
      · rename_i h3
        rw [if_pos h3]
        exact ⟨rfl, by omega, by omega, h⟩
      · split at h
        · cases h
        · split at h <;> cases h
theorem fits_221 {d : DS} {drop : Bool} {n i : Nat} (h : d.fits drop n i = 221) : d.room < d.used - (if drop then d.len i else 0) + n := by
  unfold DS.fits at h
  by_cases hh : d.room < d.used - (if drop then d.len i else 0) + n
  · exact hh
  · rw [if_neg hh] at h; cases h
theorem play_221 {d : DS} {c : CallD} (h : (d.play c).2 = 221) : (d.play c).1 = d ∧ ((c.kind = 1 ∧ d.room < d.used + (c.bs.take 2000).length) ∨ (c.kind = 3 ∧ 0 ≤ c.file ∧ c.file < 8 ∧ d.room < d.used - d.len c.file.toNat + (c.bs.take 2000).length)) := by
  unfold DS.play at h ⊢
  split at h
  · rename_i k
    rw [if_pos k]
    obtain ⟨h1, h2, h3, h4⟩ := gate_221 h
    refine ⟨h1, .inl ⟨k, ?_⟩⟩
    exact fits_221 h4
  · rename_i k1
    rw [if_neg k1]
    split at h
    · rename_i k
      obtain ⟨h1, h2, h3, h4⟩ := gate_221 h
      unfold DS.cut at h4
      split at h4 <;> cases h4
    · rename_i k2
      rw [if_neg k2]
      split at h
      · rename_i k
        rw [if_pos k]
        obtain ⟨h1, h2, h3, h4⟩ := gate_221 h
        refine ⟨h1, .inr ⟨k, h2, h3, ?_⟩⟩
        exact fits_221 h4
      · split at h
        · obtain ⟨h1, h2, h3, h4⟩ := gate_221 h
          cases h4
        · split at h
          · cases h
          · split at h <;> cases h

theorem new_room (n : Nat) : (DS.new n).room = n := rfl

set_option maxRecDepth 100000 in
set_option maxHeartbeats 2000000 in
theorem diskFull_any {w : World} (room : Nat) (hr : room ≤ 65535) (A : Option Addr) (n cap : Nat) (cs : List CallD) (hc : RdCalls w A n cs (fun x => x < w.heap.size)) (hn : n ≤ cap) :
    Calls Try.prog 6 #[.int .u16 room, .slice A n cap] w fun e w' => e = .returned (.bool true) ∧ Only (fun _ => False) w w' := by
  obtain ⟨m, hmm⟩ : ∃ m, m = min n 200 := ⟨_, rfl⟩
  have hc2 := hc.take m hmm
  have hmin : (if (200 : Int) < (n : Int) then (200 : Int) else n) = (m : Int) := by rw [hmm]; split <;> omega
  have hmc : m ≤ cap := by omega
  have hml : m = (cs.take 200).length := hc2.len
  have hm2 : m ≤ 200 := by omega
  generalize cs.take 200 = cs at *
  have HC := hide hc2
  have HM := hide hml
  have hN := hide (made_held w room hr)
  clear hc hc2 hmm hml
  go_enter Try.func6, Try.ntmps6
  go_wp2_with (go_at_call 32; refine hN.out.mono ?_; rintro e w1 ⟨b, S0, rfl, h1, h2, h3⟩; have A0 := hide h1; have O0 := hide h2; have N0 := hide h3; clear h1 h2 h3)
  clear hmin
  go_loopw [5, 22] (fun p i wr => ∃ (k b' : Nat) (d : DS) (S : Nat → Prop), k ≤ m ∧ i = .int .i64 k ∧ p = .pointer (some ⟨b', 0, none⟩) ∧ Held wr b' d S ∧ d.room = room % 4001 ∧ (∀ x, S x → w.heap.size ≤ x) ∧ Only (fun _ => False) w wr) (fun _ i _ => m - (intOf i).toNat)
  case atStart => exact ⟨0, b, _, S0, by omega, rfl, rfl, A0, rfl, N0, O0⟩
  case round =>
    obtain ⟨k, b', d, S, hk, rfl, rfl, hH, hroom, hS, hO⟩ := hrel
    by_cases hlt : k < m
    · have hcw := HC.out.only hO (fun _ _ => id)
      obtain ⟨cb, co, vB, vK, rfl, hcT, c1, c2, c3, c4, c5, c6, c7⟩ := hcw.at_ k (by rw [← HM.out]; exact hlt)
      obtain ⟨cd, hcd⟩ : ∃ cd, cs.getD k ⟨0, 0, 0, [], []⟩ = cd := ⟨_, rfl⟩
      rw [hcd] at c1 c2 c3 c6 c7
      obtain ⟨BA, Bn, Bc, rfl⟩ := c6.bs.form
      obtain ⟨KA, Kn, Kc, rfl⟩ := c6.keep.form
      have HH := hide hH
      have HS := hide hS
      have HO := hide hO
      have HR := hide hroom
      have HV := hide c6
      have hH0 := hH
      clear hH hS hO hroom hcd hcw hcT c6
      have HB := hide (hH0.alloc (.cells #[.int .i64 cd.kind, .int .i64 cd.file, .int .i64 cd.n, .slice BA Bn Bc, .slice KA Kn Kc] 51))
      have HX := hide (Box.new wr cd (.slice BA Bn Bc) (.slice KA Kn Kc))
      have HW := hide ((Only.refl (fun _ => False) wr).alloc (.cells #[.int .i64 cd.kind, .int .i64 cd.file, .int .i64 cd.n, .slice BA Bn Bc, .slice KA Kn Kc] 51))
      have HSZ := hide (show (wr.alloc (.cells #[.int .i64 cd.kind, .int .i64 cd.file, .int .i64 cd.n, .slice BA Bn Bc, .slice KA Kn Kc] 51)).heap.size = wr.heap.size + 1 from by simp)
      have hH' := hide hH0
      clear hH0
      go_wp2_with fail
      refine (files_any HB.out.disk).mono ?_
      rintro e w2 ⟨vF, TF, rfl, f1, f2, f3⟩
      have hb2 := HB.out.only f3 (fun _ _ => id)
      have hx2 := HX.out.only f3 id
      have hv2 := (HV.out.only HW.out (fun _ _ => id)).only f3 (fun _ _ => id)
      obtain ⟨V2, hA2, hS2⟩ := hb2.disk.2
      have hU := hide (used_any hA2 (Nat.le_trans hb2.disk.1.used hb2.disk.1.room))
      obtain ⟨vs, q1, q2, q3, q4, q5⟩ := f1
      obtain ⟨FA, Fn, Fc, rfl⟩ := q1.form
      have F1 : Hid (RdFS w2 (.slice FA Fn Fc) d.all TF) := ⟨vs, q1, q2, q3, q4, q5⟩
      have F2 := hide f2
      have F3 := hide f3
      have B2 := hide hb2
      have V2' := hide hv2
      have X2 := hide hx2
      obtain ⟨x0, x1, x2, x3, x4⟩ := hx2
      clear q1 q2 q3 q4 q5 f2 f3 hb2 hA2 hS2 hv2
      go_wp2_with (go_at_call 15; refine hU.out.mono ?_; rintro e w3 ⟨rfl, rfl⟩)
      refine (play_box B2.out cd c7 _ _ V2'.out (T := fun x => x < w.heap.size) (fun x hx hs => by have := HS.out x hs; omega)).mono ?_
      rintro e w3 ⟨b'', S'', rfl, g1, g2, -⟩
      obtain ⟨d', hd'⟩ : ∃ d', (d.play cd).1 = d' := ⟨_, rfl⟩
      obtain ⟨c', hc'⟩ : ∃ c', (d.play cd).2 = c' := ⟨_, rfl⟩
      have h221 := fun h => play_221 (d := d) (c := cd) h
      have hroom' := play_room d cd
      rw [hd'] at g1 hroom' h221
      rw [hc'] at h221 ⊢
      have hx3 := X2.out.only g2.only (fun hs => by have := hH'.out.lt _ hs; exact Nat.lt_irrefl _ this)
      obtain ⟨y0, y1, y2, y3, y4⟩ := hx3
      have G1 := hide g1
      have G2 := hide g2
      have GF := hide (F1.out.only g2.only (fun x hx hs => by have h1 := (F2.out x hx).1; have h2 := hH'.out.lt _ hs; rw [HSZ.out] at h1; omega))
      have hS'' : Hid (∀ x, S'' x → w.heap.size ≤ x) := fun x hx => by
        rcases g2.foot x hx with h | h
        · exact HS.out x h
        · have h1 := F3.out.size; have h2 := HO.out.size; rw [HSZ.out] at h1; omega
      have hO3 : Hid (Only (fun _ => False) w w3) := (((HO.out.trans' HW.out).trans' F3.out).trans g2.only fun x hx hs => by have := HS.out x hs; omega)
      obtain ⟨V3, hA3, -⟩ := g1.disk.2
      have hused := g1.disk.1.used
      rw [hroom', HR.out] at hused
      have hU3 := hide (used_any hA3 (Nat.le_trans g1.disk.1.used g1.disk.1.room))
      have HR' := hide (hroom'.trans HR.out)
      have H221 := hide h221
      clear g1 g2 hA3 hroom' hc' hd' h221 x0 x1 x2 x3 x4
      by_cases h221 : c' = 221
      · obtain ⟨hdd, hk'⟩ := H221.out h221
        subst h221
        have G1' : Hid (Held w3 b'' d S'') := hdd ▸ G1.out
        have HRD := HR.out
        have hu16 : d.used ≤ 16777216 := Nat.le_trans G1'.out.disk.1.used G1'.out.disk.1.room
        obtain ⟨m2, hm2⟩ : ∃ m2, m2 = min Bn 2000 := ⟨_, rfl⟩
        have hBn : Bn = cd.bs.length := by obtain ⟨A, c, e, _⟩ := HV.out.bs; injection e with _ e _; rw [e, bytesV_length]
        have hBc : Bn ≤ Bc := by obtain ⟨A, c, e, h1, _⟩ := HV.out.bs; injection e with _ e e3; omega
        have hmin2 : (if (2000 : Int) < (Bn : Int) then (2000 : Int) else Bn) = (m2 : Int) := by rw [hm2]; split <;> omega
        have hl2 : (cd.bs.take 2000).length = m2 := by rw [List.length_take]; omega
        have hm2c : m2 ≤ Bc := by omega
        have hm22 : m2 ≤ 2000 := by omega
        rw [hl2] at hk'
        have hF := hide (files_any G1'.out.disk)
        have hSame := hide (fun w5 (h : Only (fun _ => False) w3 w5) => (GF.out.only h (fun _ _ => id)).rdF)
        clear hm2 hBn hBc hl2 hdd
        rcases hk' with ⟨hk1, hk2⟩ | ⟨hk1, hf0, hf1, hk2⟩
        · rw [hk1] at y0
          have hk3 : ((room : Int) % 4001) < (d.used : Int) + (m2 : Int) := by omega
          clear hk1 hk2 HRD
          go_wp2_with (go_at_call 15; refine hU3.out.mono ?_; rintro e w4 ⟨rfl, rfl⟩)
          refine hF.out.mono ?_
          rintro e w5 ⟨v5, T5, rfl, f1, f2, f3⟩
          have hR := hide f1.rdF
          obtain ⟨vs5, q1, -⟩ := f1
          obtain ⟨A5, n5, c5, rfl⟩ := q1.form
          have HO5 := hide (hO3.out.trans' f3)
          have HD5 := hide (G1.out.only f3 (fun _ _ => id))
          have hS5 := hide (same_any hR.out (hSame.out _ f3))
          rw [show decide (d.all = d.all) = true from decide_eq_true rfl] at hS5
          clear q1 f2 f3
          go_wp2_with (go_at_call 35; refine hS5.out.mono ?_; rintro e w6 ⟨rfl, q, rfl⟩)
          go_roundw
          case rel => exact ⟨k + 1, b'', d', S'', by omega, by go_num, rfl, HD5.out.only ((Only.refl (fun _ => False) w5).drewN q) (fun _ _ => id), HR', hS'', HO5.out.drewN q⟩
          case measure => simp [intOf]; omega
        · obtain ⟨fi, hfi⟩ := Int.eq_ofNat_of_zero_le hf0
          rw [hfi] at hf1 hk2 y1
          rw [Int.toNat_natCast] at hk2
          have hfi8 : fi < 8 := by omega
          rw [hk1] at y0
          have hle : d.len fi ≤ d.used := le_sumTo d.len hfi8
          have hk3 : ((room : Int) % 4001) < (d.used : Int) + (m2 : Int) - (d.len fi : Int) := by omega
          have hGF := GF.out
          obtain ⟨vs, q1, q2, q3, -⟩ := hGF
          obtain ⟨FA', Fc', eF, kF⟩ := q1.cellAt
          injection eF with eF1 eF2 eF3
          obtain ⟨fb, fo, eFA, -, cF⟩ := kF fi (by rw [q2]; exact hfi8)
          rw [← eF1] at eFA
          subst eFA
          have q4 := q3 fi hfi8
          rw [all_getD d hfi8] at q4
          obtain ⟨EA, Ec, eE, -⟩ := q4
          rw [bytesV_length] at eE
          rw [eE] at cF
          have cF' : w3.cell? ⟨fb, fo + fi, none⟩ = some (.slice EA (d.len fi) Ec) := cF
          have hFn : (fi : Int) < (Fn : Int) := by rw [eF2, q2]; show (fi : Int) < 8; omega
          have hFn' : fi < Fn := by omega
          clear cF hk1 hk2 HRD hf0 hfi q1 q2 q3 eE kF eF1 eF2 eF3
          go_wp2_with (go_at_call 15; refine hU3.out.mono ?_; rintro e w4 ⟨rfl, rfl⟩)
          refine hF.out.mono ?_
          rintro e w5 ⟨v5, T5, rfl, f1, f2, f3⟩
          have hR := hide f1.rdF
          obtain ⟨vs5, q1, -⟩ := f1
          obtain ⟨A5, n5, c5, rfl⟩ := q1.form
          have HO5 := hide (hO3.out.trans' f3)
          have HD5 := hide (G1.out.only f3 (fun _ _ => id))
          have hS5 := hide (same_any hR.out (hSame.out _ f3))
          rw [show decide (d.all = d.all) = true from decide_eq_true rfl] at hS5
          clear q1 f2 f3
          go_wp2_with (go_at_call 35; refine hS5.out.mono ?_; rintro e w6 ⟨rfl, q, rfl⟩)
          go_roundw
          case rel => exact ⟨k + 1, b'', d', S'', by omega, by go_num, rfl, HD5.out.only ((Only.refl (fun _ => False) w5).drewN q) (fun _ _ => id), HR', hS'', HO5.out.drewN q⟩
          case measure => simp [intOf]; omega
      · have hc221 : (c' == 221) = false := by simpa using h221
        clear h221
        go_wp2_with (go_at_call 15; refine hU3.out.mono ?_; rintro e w4 ⟨rfl, rfl⟩)
        go_roundw
        case rel => exact ⟨k + 1, b'', d', S'', by omega, by go_num, rfl, G1, HR', hS'', hO3⟩
        case measure => simp [intOf]; omega
    · obtain rfl : k = m := by omega
      have HO := hide hO
      clear hH hS hO hroom
      go_wp2_with (go_at_call 17; refine (begun22_any _).mono ?_; rintro e w2 ⟨rfl, h1⟩; have O1 := hide h1; clear h1)
      go_ret
      exact ⟨rfl, HO.out.trans' O1.out⟩

end Go.Proofs.Ytldhpbmcpmebaaa
