/- DiskCopies, walked. -/
import Derived.Test.YtldhpbmcpmebaaaLaw22h
set_option linter.unusedVariables false
set_option linter.unusedSimpArgs false
namespace Go.Proofs.Ytldhpbmcpmebaaa
open Go.RowKit

set_option maxRecDepth 100000 in
set_option maxHeartbeats 8000000 in
theorem diskCopies_any {w : World} (room : Nat) (hr : room ≤ 65535) (A : Option Addr) (n cap : Nat) (cs : List CallD) (hc : RdCalls w A n cs (fun x => x < w.heap.size)) (hn : n ≤ cap)
    (A2 : Option Addr) (n2 cap2 : Nat) (ms : List CallD) (hc' : RdCalls w A2 n2 ms (fun x => x < w.heap.size)) (hn2 : n2 ≤ cap2) :
    Calls Try.prog 10 #[.int .u16 room, .slice A n cap, .slice A2 n2 cap2] w fun e w' => e = .returned (.bool true) ∧ Only (fun _ => False) w w' := by
  obtain ⟨m, hmm⟩ : ∃ m, m = min n 200 := ⟨_, rfl⟩
  have hc2 := hc.take m hmm
  have hmin : (if (200 : Int) < (n : Int) then (200 : Int) else n) = (m : Int) := by rw [hmm]; split <;> omega
  have hmc : m ≤ cap := by omega
  have hml : m = (cs.take 200).length := hc2.len
  have hm2 : m ≤ 200 := by omega
  obtain ⟨m', hmm'⟩ : ∃ m, m = min n2 200 := ⟨_, rfl⟩
  have hc2' := hc'.take m' hmm'
  have hmin' : (if (200 : Int) < (n2 : Int) then (200 : Int) else n2) = (m' : Int) := by rw [hmm']; split <;> omega
  have hmc' : m' ≤ cap2 := by omega
  have hml' : m' = (ms.take 200).length := hc2'.len
  have hm2' : m' ≤ 200 := by omega
  generalize cs.take 200 = cs at *
  generalize ms.take 200 = ms at *
  have HMIN := hide hmin'
  have HC := hide hc2
  have HM := hide hml
  have HC' := hide hc2'
  have HM' := hide hml'
  have hN := hide (made_held w room hr)
  clear hc hc2 hmm hml hc' hc2' hmm' hml'
  go_enter Try.func10, Try.ntmps10
  go_wp2_with (go_at_call 32; refine hN.out.mono ?_; rintro e w1 ⟨b, S0, rfl, h1, h2, h3⟩; have A0 := hide h1; have O0 := hide h2; have N0 := hide h3; clear h1 h2 h3)
  clear hmin
  go_loopw [7, 30] (fun p i wr => ∃ (k b' : Nat) (d : DS) (S : Nat → Prop), k ≤ m ∧ i = .int .i64 k ∧ p = .pointer (some ⟨b', 0, none⟩) ∧ Held wr b' d S ∧ (∀ x, S x → w.heap.size ≤ x) ∧ Only (fun _ => False) w wr) (fun _ i _ => m - (intOf i).toNat)
  case atStart => exact ⟨0, b, _, S0, by omega, rfl, rfl, A0, N0, O0⟩
  case round =>
    obtain ⟨k, b', d, S, hk, rfl, rfl, hH, hS, hO⟩ := hrel
    by_cases hlt : k < m
    · have hcw := HC.out.only hO (fun _ _ => id)
      obtain ⟨cb, co, vB, vK, rfl, hcT, c1, c2, c3, c4, c5, c6, c7⟩ := hcw.at_ k (by rw [← HM.out]; exact hlt)
      obtain ⟨cd, hcd⟩ : ∃ cd, cs.getD k ⟨0, 0, 0, [], []⟩ = cd := ⟨_, rfl⟩
      rw [hcd] at c1 c2 c3 c6 c7
      obtain ⟨BA, Bn, Bc, rfl⟩ := c6.bs.form
      obtain ⟨KA, Kn, Kc, rfl⟩ := c6.keep.form
      have HS := hide hS
      have HW := hide ((Only.refl (fun _ => False) wr).alloc (.cells #[.int .i64 cd.kind, .int .i64 cd.file, .int .i64 cd.n, .slice BA Bn Bc, .slice KA Kn Kc] 51))
      have HO := hide (hO.trans' HW.out)
      have HP := hide (play_box (hH.alloc (.cells #[.int .i64 cd.kind, .int .i64 cd.file, .int .i64 cd.n, .slice BA Bn Bc, .slice KA Kn Kc] 51)) cd c7 _ _ (c6.only HW.out (fun _ _ => id)) (T := fun x => x < w.heap.size) (fun x hx hs => by have := hS x hs; omega))
      clear hH hS hO hcd hcw hcT c6
      go_wp2_with fail
      refine HP.out.mono ?_
      rintro e w3 ⟨b'', S'', rfl, g1, g2, -⟩
      have hS'' : Hid (∀ x, S'' x → w.heap.size ≤ x) := fun x hx => by
        rcases g2.foot x hx with h | h
        · exact HS.out x h
        · have h2 := HO.out.size; omega
      have hO3 : Hid (Only (fun _ => False) w w3) := HO.out.trans g2.only fun x hx hs => by have := HS.out x hs; omega
      have G1 := hide g1
      clear g1 g2
      go_wp2
      go_roundw
      case rel => exact ⟨k + 1, b'', _, S'', by omega, by go_num, rfl, G1, hS'', hO3⟩
      case measure => simp [intOf]; omega
    · obtain rfl : k = m := by omega
      have HH := hide hH
      have HS := hide hS
      have HO := hide hO
      clear hH hS hO hk hlt
      go_wp2_with fail
      refine (copy_held HH.out).mono ?_
      rintro e w2 ⟨b2, S2, rfl, g1, g2, g3, g4⟩
      have D1 := hide g4
      have Y1 := hide g1
      have N1 := hide (show (∀ x, S2 x → w.heap.size ≤ x) ∧ (∀ x, S x → ¬ S2 x) ∧ Only (fun _ => False) w w2 from ⟨fun x hx => Nat.le_trans HO.out.size (g2 x hx), fun x hx hs => by have h1 := g2 x hs; have h2 := HH.out.lt x hx; omega, HO.out.trans' g3⟩)
      clear g1 g2 g3 g4
      go_wp2_with fail
      refine (files_held D1.out).mono ?_
      rintro e w3 ⟨FA, Fn, Fc, T, rfl, f1, f2, f3, f4⟩
      have C0 : Hid (CopyIn w w3 b' d S b2 d S2 (.slice FA Fn Fc) d.all T (.slice none 0 0) 0 (codesV d ms 0)) :=
        ⟨f4, Y1.out.only f3 fun _ _ => id, f1, World.ownsRow_nil _ _ _ _, N1.out.2.1, fun x hx hs => by have h1 := (f2 x hx).1; have h2 := D1.out.lt x hs; omega, fun x hx hs => by have h1 := (f2 x hx).1; have h2 := Y1.out.lt x hs; omega,
          (fun x hx => by cases hx), (fun x hx => by cases hx), (fun x hx => by cases hx), fun x hx => (f2 x hx).2, HS.out, N1.out.1, (fun x hx => by cases hx), N1.out.2.2.trans' f3⟩
      clear f1 f2 f3 f4
      go_wp2_with fail
      refine (files_held C0.out.hy).mono ?_
      rintro e w4 ⟨GA, Gn, Gc, T4, rfl, f1, f2, f3, f4⟩
      have C1 := hide (C0.out.grow f3)
      have hsm := hide (same_any f1.rdF C1.out.fl.rdF)
      rw [show decide (d.all = d.all) = true from decide_eq_true rfl] at hsm
      clear f1 f2 f3 f4
      go_wp2_with fail
      refine hsm.out.mono ?_
      rintro e w5 ⟨rfl, q, rfl⟩
      have C2 := hide (C1.out.grow ((Only.refl (fun _ => False) w4).drewN q))
      go_wp2_with fail
      refine (off_held C2.out.hy).mono ?_
      rintro e w5 ⟨rfl, rfl⟩
      go_wp2_with fail
      refine (off_held C2.out.hd).mono ?_
      rintro e w5 ⟨rfl, rfl⟩
      have hne : (d.off != d.off) = false := by simp
      go_wp2_with fail
      clear hne hmin'
      go_loopw [12, 13, 70] (fun v p i wr => ∃ (k by_ : Nat) (Sy : Nat → Prop), k ≤ m' ∧ i = .int .i64 k ∧ p = .pointer (some ⟨by_, 0, none⟩) ∧ CopyIn w wr b' d S by_ (d.plays (ms.take k)) Sy (.slice FA Fn Fc) d.all T v k (codesV d ms k)) (fun _ _ i _ => m' - (intOf i).toNat)
      case atStart => exact ⟨0, b2, S2, by omega, rfl, rfl, C2⟩
      case round =>
        obtain ⟨k, by_, Sy, hk, rfl, rfl, hC⟩ := hrel
        by_cases hlt : k < m'
        · have hcw := HC'.out.only hC.only (fun _ _ => id)
          obtain ⟨cb, co, vB, vK, rfl, hcT, c1, c2, c3, c4, c5, c6, c7⟩ := hcw.at_ k (by rw [← HM'.out]; exact hlt)
          have HPS := hide (plays_take_succ d ms (show k < ms.length by rw [← HM'.out]; exact hlt))
          have HCS := hide (codesV_succ d ms k)
          obtain ⟨cd, hcd⟩ : ∃ cd, ms.getD k ⟨0, 0, 0, [], []⟩ = cd := ⟨_, rfl⟩
          rw [hcd] at c1 c2 c3 c6 c7 HPS HCS
          obtain ⟨BA, Bn, Bc, rfl⟩ := c6.bs.form
          obtain ⟨KA, Kn, Kc, rfl⟩ := c6.keep.form
          have HW := hide ((Only.refl (fun _ => False) wr).alloc (.cells #[.int .i64 cd.kind, .int .i64 cd.file, .int .i64 cd.n, .slice BA Bn Bc, .slice KA Kn Kc] 51))
          have CB := hide (hC.grow HW.out)
          have HP := hide (play_box CB.out.hy cd c7 _ _ (c6.only HW.out (fun _ _ => id)) (T := fun x => x < w.heap.size) (fun x hx hs => by have := hC.newy x hs; omega))
          obtain ⟨VA, Vn, Vc, rfl⟩ := own_form' hC.own
          clear hC hcd hcw hcT c6
          go_wp2_with fail
          refine HP.out.mono ?_
          rintro e w6 ⟨b6, S6, rfl, g1, g2, -⟩
          have C6 := hide (CB.out.stepY g1 g2)
          clear g1 g2
          obtain ⟨cc, hcc⟩ : ∃ cc, ((d.plays (ms.take k)).play cd).2 = cc := ⟨_, rfl⟩
          rw [hcc] at HCS ⊢
          have HCC := hide hcc
          clear hcc
          have ho6 := hide ((Only.refl (fun _ => False) w6).alloc (.cells #[.int .i64 cc] 24))
          have GO := hide (ho6.out.owns C6.out.own (fun _ _ => id))
          go_wp2_with (at_builtin; refine wp_appE rfl _ _ rfl (.slice VA Vn Vc) k _ rfl GO.out w6.heap.size 1 (.int .i64 cc) rfl (cell_of_heap (heap_alloc_new w6 _) 0) rfl (by omega) ?_; intro v' w7 m1 m2 m3; obtain ⟨VB, p', q', rfl⟩ := own_form' m1; rw [← HCS.out] at m1; have M := hide (C6.out.push ho6.out m1 m2 m3); clear m1 m2 m3)
          go_roundw
          case rel => exact ⟨k + 1, b6, S6, by omega, by go_num, rfl, by rw [HPS.out]; exact M⟩
          case measure => simp [intOf]; omega
        · obtain rfl : k = m' := by omega
          have K0 := hide hC
          obtain ⟨VA, Vn, Vc, rfl⟩ := own_form' hC.own
          clear hC hk hlt
          have hmin' : (if (200 : Int) < (n2 : Int) then (200 : Int) else n2) = (k : Int) := HMIN.out
          go_wp2_with fail
          refine (files_held K0.out.hd).mono ?_
          rintro e w4 ⟨GA', Gn', Gc', T4', rfl, f1, f2, f3, f4⟩
          have K1 := hide (K0.out.grow f3)
          have hsm := hide (same_any f1.rdF K1.out.fl.rdF)
          rw [show decide (d.all = d.all) = true from decide_eq_true rfl] at hsm
          clear f1 f2 f3 f4
          go_wp2_with fail
          refine hsm.out.mono ?_
          rintro e w5 ⟨rfl, q2, rfl⟩
          have K2 := hide (K1.out.grow ((Only.refl (fun _ => False) w4).drewN q2))
          go_wp2_with fail
          clear hmin'
          go_loopw [7, 98] (fun p i wr => ∃ (j bd : Nat) (Sd : Nat → Prop), j ≤ k ∧ i = .int .i64 j ∧ p = .pointer (some ⟨bd, 0, none⟩) ∧ CopyIn w wr bd (d.plays (ms.take j)) Sd by_ (d.plays (ms.take k)) Sy (.slice FA Fn Fc) d.all T (.slice VA Vn Vc) k (codesV d ms k)) (fun _ i _ => k - (intOf i).toNat)
          case atStart => exact ⟨0, b', S, by omega, rfl, rfl, K2⟩
          case round =>
            obtain ⟨j, bd, Sd, hj, rfl, rfl, hC⟩ := hrel
            by_cases hlt : j < k
            · have hcw := HC'.out.only hC.only (fun _ _ => id)
              obtain ⟨cb, co, vB, vK, rfl, hcT, c1, c2, c3, c4, c5, c6, c7⟩ := hcw.at_ j (by rw [← HM'.out]; exact hlt)
              have HPS := hide (plays_take_succ d ms (show j < ms.length by rw [← HM'.out]; exact hlt))
              have HCG := hide (codesV_get d ms k hlt)
              obtain ⟨cd, hcd⟩ : ∃ cd, ms.getD j ⟨0, 0, 0, [], []⟩ = cd := ⟨_, rfl⟩
              rw [hcd] at c1 c2 c3 c6 c7 HPS HCG
              obtain ⟨BA, Bn, Bc, rfl⟩ := c6.bs.form
              obtain ⟨KA, Kn, Kc, rfl⟩ := c6.keep.form
              have HW := hide ((Only.refl (fun _ => False) wr).alloc (.cells #[.int .i64 cd.kind, .int .i64 cd.file, .int .i64 cd.n, .slice BA Bn Bc, .slice KA Kn Kc] 51))
              have CB := hide (hC.grow HW.out)
              have HP := hide (play_box CB.out.hd cd c7 _ _ (c6.only HW.out (fun _ _ => id)) (T := fun x => x < w.heap.size) (fun x hx hs => by have := hC.newd x hs; omega))
              clear hC hcd hcw hcT c6
              go_wp2_with fail
              refine HP.out.mono ?_
              rintro e w6 ⟨b6, S6, rfl, g1, g2, -⟩
              have C6 := hide (CB.out.stepD g1 g2)
              clear g1 g2
              obtain ⟨cc, hcc⟩ : ∃ cc, ((d.plays (ms.take j)).play cd).2 = cc := ⟨_, rfl⟩
              rw [hcc] at HCG ⊢
              clear hcc
              obtain ⟨VA', Vc', eV, kV⟩ := (Rds.own C6.out.own).cellAt
              rw [codesV_length] at eV kV
              injection eV with eV1 eV2 eV3
              obtain ⟨vb, vo, eVA, -, hcv⟩ := kV j hlt
              rw [HCG.out] at hcv
              rw [← eV1] at eVA
              subst eVA
              have hVn : (j : Int) < (Vn : Int) := by rw [eV2]; omega
              have hVn' : j < Vn := by omega
              have hne : (cc != cc) = false := by simp
              clear kV eV1 eV2 eV3
              go_wp2
              go_roundw
              case rel => exact ⟨j + 1, b6, S6, by omega, by go_num, rfl, by rw [HPS.out]; exact C6⟩
              case measure => simp [intOf]; omega
            · obtain rfl : j = k := by omega
              have K3 := hide hC
              clear hC hj hlt
              go_wp2_with fail
              refine (files_held K3.out.hd).mono ?_
              rintro e w6 ⟨HA, Hn, Hc, T6, rfl, f1, f2, f3, f4⟩
              have K4 := hide (K3.out.grow f3)
              have F1 := hide f1
              clear f1 f2 f3 f4
              go_wp2_with fail
              refine (files_held K4.out.hy).mono ?_
              rintro e w7 ⟨JA, Jn, Jc, T7, rfl, f1, f2, f3, f4⟩
              have K5 := hide (K4.out.grow f3)
              have hsm := hide (same_any (F1.out.only f3 fun _ _ => id).rdF f1.rdF)
              rw [show decide ((d.plays (ms.take j)).all = (d.plays (ms.take j)).all) = true from decide_eq_true rfl] at hsm
              clear f1 f2 f3 f4
              go_wp2_with fail
              refine hsm.out.mono ?_
              rintro e w8 ⟨rfl, q3, rfl⟩
              go_wp2_with (go_at_call 17; refine (begun22_any _).mono ?_; rintro e w2 ⟨rfl, h1⟩; have O1 := hide h1; clear h1)
              go_ret
              exact ⟨rfl, (K5.out.only.drewN q3).trans' O1.out⟩

end Go.Proofs.Ytldhpbmcpmebaaa
