/- DiskKeeps, walked. -/
import Derived.Test.YtldhpbmcpmebaaaLaw22g
set_option linter.unusedVariables false
set_option linter.unusedSimpArgs false
namespace Go.Proofs.Ytldhpbmcpmebaaa
open Go.RowKit

/-- What the last loop of DiskKeeps leaves. -/
structure KeepsIn (w wr : World) (b : Nat) (d : DS) (F : Value) (T : Nat → Prop) (S : Nat → Prop) (d' : DS) : Prop where
  held : Held wr b d' S
  calm : Calm d d'
  files : RdFS wr F d.all T
  apart : ∀ x, T x → ¬ S x
  lt : ∀ x, T x → x < wr.heap.size
  new : ∀ x, S x → w.heap.size ≤ x
  only : Only (fun _ => False) w wr
theorem KeepsIn.step {w wr w' : World} {b : Nat} {d : DS} {F : Value} {T S S' : Nat → Prop} {d' d2 : DS} (h : KeepsIn w wr b d F T S d') (h1 : Held w' b d2 S') (h2 : Stp S wr w' S') (h3 : Calm d d2) : KeepsIn w w' b d F T S' d2 :=
  ⟨h1, h3, h.files.only h2.only h.apart, fun x hx hs => (h2.foot x hs).elim (h.apart x hx) (fun hl => by have := h.lt x hx; omega), fun x hx => Nat.lt_of_lt_of_le (h.lt x hx) h2.only.size,
    fun x hx => (h2.foot x hx).elim (h.new x) fun hl => Nat.le_trans h.only.size hl, h.only.trans h2.only fun x hx hs => by have := h.new x hs; omega⟩
theorem KeepsIn.grow {w wr w' : World} {b : Nat} {d : DS} {F : Value} {T S : Nat → Prop} {d' : DS} (h : KeepsIn w wr b d F T S d') (ho : Only (fun _ => False) wr w') : KeepsIn w w' b d F T S d' :=
  ⟨h.held.only ho fun _ _ => id, h.calm, h.files.only ho fun _ _ => id, h.apart, fun x hx => Nat.lt_of_lt_of_le (h.lt x hx) ho.size, h.new, h.only.trans' ho⟩

set_option maxRecDepth 100000 in
set_option maxHeartbeats 4000000 in
theorem diskKeeps_any {w : World} (room : Nat) (hr : room ≤ 65535) (A : Option Addr) (n cap : Nat) (cs : List CallD) (hc : RdCalls w A n cs (fun x => x < w.heap.size)) (hn : n ≤ cap) :
    Calls Try.prog 7 #[.int .u16 room, .slice A n cap] w fun e w' => e = .returned (.bool true) ∧ Only (fun _ => False) w w' := by
  obtain ⟨m, hmm⟩ : ∃ m, m = min n 200 := ⟨_, rfl⟩
  have hc2 := hc.take m hmm
  have hmin : (if (200 : Int) < (n : Int) then (200 : Int) else n) = (m : Int) := by rw [hmm]; split <;> omega
  have hmc : m ≤ cap := by omega
  have hml : m = (cs.take 200).length := hc2.len
  have hm2 : m ≤ 200 := by omega
  generalize cs.take 200 = cs at *
  have HC := hide hc2
  have HM := hide hml
  have hN := hide (made_held w room hr)
  clear hc hc2 hmm hml
  go_enter Try.func7, Try.ntmps7
  go_wp2_with (go_at_call 32; refine hN.out.mono ?_; rintro e w1 ⟨b, S0, rfl, h1, h2, h3⟩; have A0 := hide h1; have O0 := hide h2; have N0 := hide h3; clear h1 h2 h3)
  clear hmin
  go_loopw [5, 22] (fun p i wr => ∃ (k b' : Nat) (d : DS) (S : Nat → Prop), k ≤ m ∧ i = .int .i64 k ∧ p = .pointer (some ⟨b', 0, none⟩) ∧ Held wr b' d S ∧ (∀ x, S x → w.heap.size ≤ x) ∧ Only (fun _ => False) w wr) (fun _ i _ => m - (intOf i).toNat)
  case atStart => exact ⟨0, b, _, S0, by omega, rfl, rfl, A0, N0, O0⟩
  case round =>
    obtain ⟨k, b', d, S, hk, rfl, rfl, hH, hS, hO⟩ := hrel
    by_cases hlt : k < m
    · have hcw := HC.out.only hO (fun _ _ => id)
      obtain ⟨cb, co, vB, vK, rfl, hcT, c1, c2, c3, c4, c5, c6, c7⟩ := hcw.at_ k (by rw [← HM.out]; exact hlt)
      obtain ⟨cd, hcd⟩ : ∃ cd, cs.getD k ⟨0, 0, 0, [], []⟩ = cd := ⟨_, rfl⟩
      rw [hcd] at c1 c2 c3 c6 c7
      obtain ⟨BA, Bn, Bc, rfl⟩ := c6.bs.form
      obtain ⟨KA, Kn, Kc, rfl⟩ := c6.keep.form
      have HS := hide hS
      have HW := hide ((Only.refl (fun _ => False) wr).alloc (.cells #[.int .i64 cd.kind, .int .i64 cd.file, .int .i64 cd.n, .slice BA Bn Bc, .slice KA Kn Kc] 51))
      have HO := hide (hO.trans' HW.out)
      have HP := hide (play_box (hH.alloc (.cells #[.int .i64 cd.kind, .int .i64 cd.file, .int .i64 cd.n, .slice BA Bn Bc, .slice KA Kn Kc] 51)) cd c7 _ _ (c6.only HW.out (fun _ _ => id)) (T := fun x => x < w.heap.size) (fun x hx hs => by have := hS x hs; omega))
      clear hH hS hO hcd hcw hcT c6
      go_wp2_with fail
      refine HP.out.mono ?_
      rintro e w3 ⟨b'', S'', rfl, g1, g2, -⟩
      have hS'' : Hid (∀ x, S'' x → w.heap.size ≤ x) := fun x hx => by
        rcases g2.foot x hx with h | h
        · exact HS.out x h
        · have h2 := HO.out.size; omega
      have hO3 : Hid (Only (fun _ => False) w w3) := HO.out.trans g2.only fun x hx hs => by have := HS.out x hs; omega
      have G1 := hide g1
      clear g1 g2
      go_wp2
      go_roundw
      case rel => exact ⟨k + 1, b'', _, S'', by omega, by go_num, rfl, G1, hS'', hO3⟩
      case measure => simp [intOf]; omega
    · obtain rfl : k = m := by omega
      have hmk := run_make8
      have HH := hide hH
      have HS := hide hS
      have HO := hide hO
      clear hH hS hO hk hlt
      go_wp2_with fail
      refine (files_held HH.out).mono ?_
      rintro e w2 ⟨FA, Fn, Fc, T, rfl, f1, f2, f3, f4⟩
      have hRes := hide (show RdFS w2 (.slice FA Fn Fc) d.all T ∧ (∀ x, T x → ¬ S x) ∧ (∀ x, T x → x < w2.heap.size) ∧ Held w2 b' d S ∧ Only (fun _ => False) w w2 from ⟨f1, fun x hx hs => by have h1 := (f2 x hx).1; have h2 := HH.out.lt x hs; omega, fun x hx => (f2 x hx).2, f4, HO.out.trans' f3⟩)
      clear f1 f2 f3 f4
      go_wp2_with fail
      clear hmk
      go_loopw [40] (fun i wr => ∃ k : Nat, k ≤ 8 ∧ i = .int .i64 k ∧ wr = w2.alloc (.cells (keepArr k) 3)) (fun i _ => 8 - (intOf i).toNat)
      case atStart => exact ⟨0, by omega, rfl, rfl⟩
      case round =>
        obtain ⟨j, hj, rfl, rfl⟩ := hrel
        by_cases hlt : j < 8
        · have hc : (keepArr j)[j]? = some (.int .i64 (if j < j then 16777216 else 0)) := keepArr_at j hlt
          go_wp2
          go_roundw
          case rel => exact ⟨j + 1, by omega, by go_num, by rw [keepArr_set hlt]⟩
          case measure => simp [intOf]; omega
        · obtain rfl : j = 8 := by omega
          obtain ⟨R1, R2, R3, R4, R5⟩ := hRes.out
          have ho8 := (Only.refl (fun _ => False) w2).alloc (.cells (keepArr 8) 3)
          have hcr := hide (crash_held (R4.alloc (.cells (keepArr 8) 3)) _ keepAll (rds_keepAll w2) (fun x hx hs => by cases rdBlock_own hx; exact Nat.lt_irrefl _ (R4.lt _ hs)))
          have hK0 : Hid (∀ w' S', Held w' b' (d.crash keepAll) S' → Stp S (w2.alloc (.cells (keepArr 8) 3)) w' S' → KeepsIn w w' b' d (.slice FA Fn Fc) T S' (d.crash keepAll)) := fun w' S' h1 h2 => by
            have hlt8 : ∀ x, T x → x < (w2.alloc (.cells (keepArr 8) 3)).heap.size := fun x hx => Nat.lt_of_lt_of_le (R3 x hx) ho8.size
            exact ⟨h1, calm_crash R4.disk.1, (R1.only ho8 (fun _ _ => id)).only h2.only R2, fun x hx hs => (h2.foot x hs).elim (R2 x hx) (fun hl => by have := hlt8 x hx; omega), fun x hx => Nat.lt_of_lt_of_le (hlt8 x hx) h2.only.size,
              fun x hx => (h2.foot x hx).elim (HS.out x) fun hl => Nat.le_trans (R5.trans' ho8).size hl, (R5.trans' ho8).trans h2.only fun x hx hs => by have := HS.out x hs; omega⟩
          clear R1 R2 R3 R4 R5 ho8 hj hlt
          go_wp2_with fail
          refine hcr.out.mono ?_
          rintro e w3 ⟨rfl, S3, g1, g2⟩
          have K3 := hide (hK0.out w3 S3 g1 g2)
          clear g1 g2
          go_wp2_with fail
          refine (files_held K3.out.held).mono ?_
          rintro e w4 ⟨GA, Gn, Gc, T4, rfl, f1, f2, f3, f4⟩
          have K4 := hide (K3.out.grow f3)
          have hsm := hide (same_any f1.rdF K4.out.files.rdF)
          rw [K3.out.calm.all, show decide (d.all = d.all) = true from decide_eq_true rfl] at hsm
          clear f1 f2 f3 f4
          go_wp2_with fail
          refine hsm.out.mono ?_
          rintro e w5 ⟨rfl, q, rfl⟩
          have K5 := hide (K4.out.grow ((Only.refl (fun _ => False) w4).drewN q))
          go_wp2_with fail
          go_loopw [11] (fun i wr => ∃ (k : Nat) (d' : DS) (S' : Nat → Prop), k ≤ 8 ∧ i = .int .i64 k ∧ KeepsIn w wr b' d (.slice FA Fn Fc) T S' d') (fun i _ => 8 - (intOf i).toNat)
          case atStart => exact ⟨0, _, S3, by omega, rfl, K5⟩
          case round =>
            obtain ⟨j, d', S', hj, rfl, hK⟩ := hrel
            by_cases hlt : j < 8
            · have HK := hide hK
              have hca := hK.calm.append hK.held.disk.1 hlt
              have hA := hide (append_nil hK.held j)
              rw [hca.1] at hA
              have HCA := hide hca.2
              clear hK hca
              go_wp2_with fail
              refine hA.out.mono ?_
              rintro e w6 ⟨rfl, S6, g1, g2⟩
              have K6 := hide (HK.out.step g1 g2 HCA.out)
              have hcs := K6.out.calm.sync hlt
              have hB := hide (sync_held K6.out.held j)
              rw [hcs.1] at hB
              have HCS := hide hcs.2
              clear g1 g2 hcs
              go_wp2_with fail
              refine hB.out.mono ?_
              rintro e w7 ⟨rfl, S7, g1, g2⟩
              have K7 := hide (K6.out.step g1 g2 HCS.out)
              clear g1 g2
              go_wp2
              go_roundw
              case rel => exact ⟨j + 1, _, S7, by omega, by go_num, K7⟩
              case measure => simp [intOf]; omega
            · obtain rfl : j = 8 := by omega
              have HK := hide hK
              clear hK hj hlt
              go_wp2_with fail
              refine (crash_held HK.out.held _ [] (rds_nil _) (fun x hx => by cases hx)).mono ?_
              rintro e w6 ⟨rfl, S6, g1, g2⟩
              have K6 := hide (HK.out.step g1 g2 HK.out.calm.crash)
              clear g1 g2
              go_wp2_with fail
              refine (files_held K6.out.held).mono ?_
              rintro e w7 ⟨GA', Gn', Gc', T7, rfl, f1, f2, f3, f4⟩
              have K7 := hide (K6.out.grow f3)
              have hsm := hide (same_any f1.rdF K7.out.files.rdF)
              rw [K6.out.calm.all, show decide (d.all = d.all) = true from decide_eq_true rfl] at hsm
              clear f1 f2 f3 f4
              go_wp2_with fail
              refine hsm.out.mono ?_
              rintro e w8 ⟨rfl, q2, rfl⟩
              go_wp2_with (go_at_call 17; refine (begun22_any _).mono ?_; rintro e w2 ⟨rfl, h1⟩; have O1 := hide h1; clear h1)
              go_ret
              exact ⟨rfl, (K7.out.only.drewN q2).trans' O1.out⟩

end Go.Proofs.Ytldhpbmcpmebaaa
