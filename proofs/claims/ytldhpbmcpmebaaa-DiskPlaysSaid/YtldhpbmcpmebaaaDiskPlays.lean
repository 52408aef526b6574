/- DiskPlays, walked. -/
import Derived.Test.YtldhpbmcpmebaaaRef22e
set_option linter.unusedVariables false
set_option linter.unusedSimpArgs false
namespace Go.Proofs.Ytldhpbmcpmebaaa
open Go.RowKit

/-- The disk and the reference's, the same. -/
structure Both (w wr : World) (b : Nat) (S : Nat → Prop) (rb : Nat) (R : Nat → Prop) (d : DS) : Prop where
  hd : Held wr b d S
  rf : RHeld wr rb d R
  apart : ∀ x, S x → ¬ R x
  newS : ∀ x, S x → w.heap.size ≤ x
  newR : ∀ x, R x → w.heap.size ≤ x
  only : Only (fun _ => False) w wr
theorem Both.grow {w wr w' : World} {b : Nat} {S : Nat → Prop} {rb : Nat} {R : Nat → Prop} {d : DS} (h : Both w wr b S rb R d) (ho : Only (fun _ => False) wr w') : Both w w' b S rb R d :=
  ⟨h.hd.only ho fun _ _ => id, h.rf.only ho fun _ _ => id, h.apart, h.newS, h.newR, h.only.trans' ho⟩
/-- Behind both steps. -/
theorem Both.step {w wr w1 w2 : World} {b b' : Nat} {S S' : Nat → Prop} {rb rb' : Nat} {R R' : Nat → Prop} {d d' : DS} (h : Both w wr b S rb R d) (h1 : Held w1 b' d' S') (s1 : Stp S wr w1 S') (h2 : RHeld w2 rb' d' R') (s2 : Stp R w1 w2 R') : Both w w2 b' S' rb' R' d' := by
  have hS' : ∀ x, S' x → w.heap.size ≤ x := fun x hx => (s1.foot x hx).elim (h.newS x) fun hl => Nat.le_trans h.only.size hl
  have hR' : ∀ x, R' x → w.heap.size ≤ x := fun x hx => (s2.foot x hx).elim (h.newR x) fun hl => Nat.le_trans (Nat.le_trans h.only.size s1.only.size) hl
  have hSR : ∀ x, S' x → ¬ R x := fun x hx hr => (s1.foot x hx).elim (fun hs => h.apart x hs hr) fun hl => by have := h.rf.lt x hr; omega
  refine ⟨h1.only s2.only hSR, h2, fun x hx hr => (s2.foot x hr).elim (hSR x hx) fun hl => by have := h1.lt x hx; omega, hS', hR', ?_⟩
  exact (h.only.trans s1.only fun x hx hs => by have := h.newS x hs; omega).trans s2.only fun x hx hr => by have := h.newR x hr; omega
theorem Both.rfKeep {w wr w1 : World} {b b' : Nat} {S S' : Nat → Prop} {rb : Nat} {R : Nat → Prop} {d d' : DS} (h : Both w wr b S rb R d) (s1 : Stp S wr w1 S') : RHeld w1 rb d R :=
  h.rf.only s1.only fun x hr hs => h.apart x hs hr

theorem roff_held {w : World} {b : Nat} {d : DS} {S : Nat → Prop} (h : RHeld w b d S) : Calls Try.prog 46 #[.pointer (some ⟨b, 0, none⟩)] w fun e w' => e = .returned (.bool d.off) ∧ w = w' := by
  obtain ⟨⟨V, hA, -⟩, -⟩ := h
  exact ref_off hA
theorem rused_held {w : World} {b : Nat} {d : DS} {S : Nat → Prop} (h : RHeld w b d S) (hok : d.Ok) : Calls Try.prog 47 #[.pointer (some ⟨b, 0, none⟩)] w fun e w' => e = .returned (.int .i64 d.used) ∧ w = w' := by
  obtain ⟨⟨V, hA, -⟩, -⟩ := h
  exact ref_used hA (Nat.le_trans hok.used hok.room)
theorem used_held {w : World} {b : Nat} {d : DS} {S : Nat → Prop} (h : Held w b d S) : Calls Try.prog 15 #[.pointer (some ⟨b, 0, none⟩)] w fun e w' => e = .returned (.int .i64 d.used) ∧ w = w' := by
  obtain ⟨hok, V, hA, hS⟩ := h.disk
  exact used_any hA (Nat.le_trans hok.used hok.room)
theorem rread_held {w : World} {b : Nat} {d : DS} {S : Nat → Prop} (h : RHeld w b d S) (hok : d.Ok) (at_ : Int) :
    Calls Try.prog 48 #[.pointer (some ⟨b, 0, none⟩), .int .i64 at_] w (ReadEnd w (if d.code at_ = 0 then d.data at_.toNat else []) (d.code at_)) := by
  obtain ⟨⟨V, hA, -⟩, -⟩ := h
  exact ref_read hA hok at_
theorem rsize_held {w : World} {b : Nat} {d : DS} {S : Nat → Prop} (h : RHeld w b d S) (at_ : Int) :
    Calls Try.prog 49 #[.pointer (some ⟨b, 0, none⟩), .int .i64 at_] w fun e w' => e = .returned (.tuple #[.int .i64 (if d.code at_ = 0 then d.len at_.toNat else 0), .int .i64 (d.code at_)]) ∧ w = w' := by
  obtain ⟨⟨V, hA, -⟩, -⟩ := h
  exact ref_size hA at_

def fileArr (f : Int) : Array Value := #[.int .i64 f, .int .i64 0, .int .i64 1, .int .i64 7, .int .i64 (-1), .int .i64 8]
def fileAt (f : Int) (k : Nat) : Int := [f, 0, 1, 7, -1, 8].getD k 0
theorem fileArr_at (f : Int) (k : Nat) (h : k < 6) : (fileArr f)[k]? = some (.int .i64 (fileAt f k)) := by
  have : k = 0 ∨ k = 1 ∨ k = 2 ∨ k = 3 ∨ k = 4 ∨ k = 5 := by omega
  rcases this with rfl | rfl | rfl | rfl | rfl | rfl <;> rfl

set_option maxRecDepth 100000 in
set_option maxHeartbeats 8000000 in
theorem diskPlays_any {w : World} (room : Nat) (hr : room ≤ 65535) (A : Option Addr) (n cap : Nat) (cs : List CallD) (hc : RdCalls w A n cs (fun x => x < w.heap.size)) (hn : n ≤ cap) :
    Calls Try.prog 12 #[.int .u16 room, .slice A n cap] w fun e w' => e = .returned (.bool true) ∧ Only (fun _ => False) w w' := by
  obtain ⟨m, hmm⟩ : ∃ m, m = min n 200 := ⟨_, rfl⟩
  have hc2 := hc.take m hmm
  have hmin : (if (200 : Int) < (n : Int) then (200 : Int) else n) = (m : Int) := by rw [hmm]; split <;> omega
  have hmc : m ≤ cap := by omega
  have hml : m = (cs.take 200).length := hc2.len
  have hm2 : m ≤ 200 := by omega
  generalize cs.take 200 = cs at *
  have HC := hide hc2
  have HM := hide hml
  have hN := hide (made_held w room hr)
  have hRN := hide (fun w => refnew_any w ((room : Int) % 4001) (by omega) (by omega))
  have er : ((room : Int) % 4001).toNat = room % 4001 := by omega
  rw [er] at hRN
  clear hc hc2 hmm hml er
  go_enter Try.func12, Try.ntmps12
  go_wp2_with (first
    | go_at_call 32; refine hN.out.mono ?_; rintro e w1 ⟨b, S0, rfl, h1, h2, h3⟩; have A0 := hide h1; have O0 := hide h2; have N0 := hide h3; clear h1 h2 h3
    | (go_at_call 14; refine (hRN.out _).mono ?_; rintro e w2 ⟨rfl, h1⟩; have H1 := hide h1; clear h1))
  have K2 : Hid (Both w w2 b S0 w1.heap.size (rfoot w1.heap.size (fun _ => .slice none 0 0)) (DS.new (room % 4001))) := by
    have h1 := H1.out
    clear H1
    subst h1
    have ho := (Only.refl (fun _ => False) w1).alloc (.cells (refArr (DS.new (room % 4001)) (fun _ => .slice none 0 0)) 85)
    have hR := refnew_at w1 (room % 4001)
    refine ⟨A0.out.only ho fun _ _ => id, ⟨⟨_, hR, fun _ h => h⟩, fun k hk => hR.lt hk⟩, fun x hx hr => ?_, N0.out, fun x hr => ?_, O0.out.trans' ho⟩
    · rcases hr with rfl | ⟨i, hi, hk⟩
      · exact Nat.lt_irrefl _ (A0.out.lt _ hx)
      · cases hk
    · rcases hr with rfl | ⟨i, hi, hk⟩
      · exact O0.out.size
      · cases hk
  clear hmin H1 hN hRN
  generalize w1.heap.size = rb0 at *
  go_loopw [5, 6, 39] (fun p q i wr => ∃ (k b : Nat) (S : Nat → Prop) (rb : Nat) (R : Nat → Prop) (d : DS), k ≤ m ∧ i = .int .i64 k ∧ p = .pointer (some ⟨b, 0, none⟩) ∧ q = .pointer (some ⟨rb, 0, none⟩) ∧ Both w wr b S rb R d) (fun _ _ i _ => m - (intOf i).toNat)
  case atStart => exact ⟨0, _, _, _, _, _, by omega, rfl, rfl, rfl, K2⟩
  case round =>
    obtain ⟨k, b, S, rb, R, d, hk, rfl, rfl, rfl, hK⟩ := hrel
    by_cases hlt : k < m
    · have hcw := HC.out.only hK.only (fun _ _ => id)
      obtain ⟨cb, co, vB, vK, rfl, hcT, c1, c2, c3, c4, c5, c6, c7⟩ := hcw.at_ k (by rw [← HM.out]; exact hlt)
      obtain ⟨cd, hcd⟩ : ∃ cd, cs.getD k ⟨0, 0, 0, [], []⟩ = cd := ⟨_, rfl⟩
      rw [hcd] at c1 c2 c3 c6 c7
      obtain ⟨BA, Bn, Bc, rfl⟩ := c6.bs.form
      obtain ⟨KA, Kn, Kc, rfl⟩ := c6.keep.form
      have HW := hide ((Only.refl (fun _ => False) wr).alloc (.cells #[.int .i64 cd.kind, .int .i64 cd.file, .int .i64 cd.n, .slice BA Bn Bc, .slice KA Kn Kc] 51))
      have K3 := hide (hK.grow HW.out)
      have C6 := hide (c6.only HW.out (fun _ _ => id))
      have HP := hide (play_box K3.out.hd cd c7 _ _ C6.out (T := fun x => x < w.heap.size) (fun x hx hs => by have := hK.newS x hs; omega))
      have hBx : Hid (∀ w2 T2, Stp S (wr.alloc (.cells #[.int .i64 cd.kind, .int .i64 cd.file, .int .i64 cd.n, .slice BA Bn Bc, .slice KA Kn Kc] 51)) w2 T2 → Box w2 wr.heap.size cd (.slice BA Bn Bc) (.slice KA Kn Kc)) := fun w2 T2 s => (Box.new wr cd _ _).only s.only fun hs => Nat.lt_irrefl _ (hK.hd.lt _ hs)
      have hRx := hide hK.rf.lt
      clear hK hcd hcw hcT c6
      go_wp2_with fail
      refine HP.out.mono ?_
      rintro e w3 ⟨b', S', rfl, g1, g2, -⟩
      have G1 := hide g1
      have G2 := hide g2
      obtain ⟨x0, x1, x2, x3, x4⟩ := hBx.out w3 _ g2
      have HB := hide (show Box w3 wr.heap.size cd (.slice BA Bn Bc) (.slice KA Kn Kc) from ⟨x0, x1, x2, x3, x4⟩)
      have HQ := hide (model_any (K3.out.rfKeep (b' := b') (d' := d) g2) K3.out.hd.disk.1 cd _ _ (C6.out.only g2.only (fun x hx hs => by have := K3.out.newS x hs; omega)) (T := fun x => x < w.heap.size) (fun x hx hr => by have := K3.out.newR x hr; omega))
      have HM2 := hide (show ∀ w4 T2, Stp R w3 w4 T2 → w4.cell? ⟨wr.heap.size, 1, none⟩ = some (.int .i64 cd.file) from fun w4 T2 s => s.only.cell x1 fun hs =>
         Nat.lt_irrefl _ (hRx.out _ hs))
      clear g1 g2
      go_wp2_with fail
      refine HQ.out.mono ?_
      rintro e w4 ⟨rb', R', rfl, g3, g4⟩
      have K4 := hide (K3.out.step G1.out G2.out g3 g4)
      have x1' := HM2.out w4 _ g4
      clear g3 g4 HP HQ G1 G2 x0 x1 x2 x3 x4 HM2
      obtain ⟨cc, hcc⟩ : ∃ cc, (d.play cd).2 = cc := ⟨_, rfl⟩
      obtain ⟨d', hdd⟩ : ∃ d', (d.play cd).1 = d' := ⟨_, rfl⟩
      rw [hdd] at K4
      rw [hcc]
      clear hcc hdd
      go_wp2_with fail
      refine (off_held K4.out.hd).mono ?_
      rintro e w5 ⟨rfl, rfl⟩
      go_wp2_with fail
      refine (roff_held K4.out.rf).mono ?_
      rintro e w5 ⟨rfl, rfl⟩
      have hne : (d'.off != d'.off) = false := by simp
      go_wp2_with fail
      refine (used_held K4.out.hd).mono ?_
      rintro e w5 ⟨rfl, rfl⟩
      go_wp2_with fail
      refine (rused_held K4.out.rf K4.out.hd.disk.1).mono ?_
      rintro e w5 ⟨rfl, rfl⟩
      go_wp2_with fail
      clear hne x1'
      generalize cd.file = f at *
      have K5 := hide (K4.out.grow ((Only.refl (fun _ => False) w4).alloc (.cells (fileArr f) 3)))
      have hcell : Hid (∀ j, j < 6 → (w4.alloc (.cells (fileArr f) 3)).cell? ⟨w4.heap.size, j, none⟩ = some (.int .i64 (fileAt f j))) := fun j hj => by
        rw [cell_of_heap (heap_alloc_new w4 _), fileArr_at f j hj]
      go_loopw [80] (fun i wr => ∃ j : Nat, j ≤ 6 ∧ i = .int .i64 j ∧ Only (fun _ => False) (w4.alloc (.cells (fileArr f) 3)) wr ∧ Both w wr b' S' rb' R' d') (fun i _ => 6 - (intOf i).toNat)
      case atStart => exact ⟨0, by omega, rfl, Only.refl _ _, K5.out⟩
      case round =>
        obtain ⟨j, hj, rfl, hO, hK⟩ := hrel
        by_cases hlt6 : j < 6
        · have hcj := hO.cell (hcell.out j hlt6) id
          have HO := hide hO
          have HK := hide hK
          clear hO hK
          generalize fileAt f j = g at hcj
          have HR1 := hide (read_held HK.out.hd g)
          have HR2 := hide (fun w6 (ho : Only (fun _ => False) _ w6) => rread_held (HK.out.grow ho).rf HK.out.hd.disk.1 g)
          have HZ1 := hide (fun w6 (ho : Only (fun _ => False) _ w6) => size_held (HK.out.grow ho).hd g)
          have HZ2 := hide (fun w6 (ho : Only (fun _ => False) _ w6) => rsize_held (HK.out.grow ho).rf g)
          generalize (if d'.code g = 0 then d'.data g.toNat else []) = l at HR1 HR2
          generalize (if d'.code g = 0 then (d'.len g.toNat : Int) else 0) = z at HZ1 HZ2
          generalize d'.code g = gc at HR1 HR2 HZ1 HZ2
          go_wp2_with fail
          refine HR1.out.mono ?_
          rintro e w6 ⟨v1, rfl, g1, g2, g3⟩
          obtain ⟨A1, n1, c1', rfl⟩ := own_form' g1
          have P1 := hide (Rds.own g1)
          have Q1 := hide g3
          clear g1 g2 g3
          go_wp2_with fail
          refine (HR2.out _ Q1.out).mono ?_
          rintro e w7 ⟨v2, rfl, g1, g2, g3⟩
          obtain ⟨A2, n2, c2', rfl⟩ := own_form' g1
          have HE := hide (bytesEqual_any (P1.out.only g3 fun _ _ => id) (Rds.own g1))
          rw [show decide (l = l) = true from decide_eq_true rfl] at HE
          have Q2 := hide (Q1.out.trans' g3)
          clear g1 g2 g3
          go_wp2_with fail
          refine (HZ1.out _ Q2.out).mono ?_
          rintro e w8 ⟨rfl, rfl⟩
          go_wp2_with (go_at_call 49; refine (HZ2.out _ Q2.out).mono ?_; rintro e w8 ⟨rfl, rfl⟩)
          go_wp2_with fail
          refine HE.out.mono ?_
          rintro e w8 ⟨rfl, rfl⟩
          go_wp2
          go_roundw
          case rel => exact ⟨j + 1, by omega, by go_num, HO.out.trans' Q2.out, HK.out.grow Q2.out⟩
          case measure => simp [intOf]; omega
        · obtain rfl : j = 6 := by omega
          have HK := hide hK
          clear hK hO
          go_wp2
          go_roundw
          case rel => exact ⟨k + 1, _, _, _, _, _, by omega, by go_num, rfl, rfl, HK.out⟩
          case measure => simp [intOf]; omega
    · obtain rfl : k = m := by omega
      have HO := hide hK.only
      clear hK hk hlt
      go_wp2_with (go_at_call 17; refine (begun22_any _).mono ?_; rintro e w2 ⟨rfl, h1⟩; have O1 := hide h1; clear h1)
      go_ret
      exact ⟨rfl, HO.out.trans' O1.out⟩

end Go.Proofs.Ytldhpbmcpmebaaa
