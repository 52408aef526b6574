/- The reference's disk: Truncate, Crash, New, walked. -/
import Derived.Test.YtldhpbmcpmebaaaRef22b
set_option linter.unusedVariables false
set_option linter.unusedSimpArgs false
namespace Go.Proofs.Ytldhpbmcpmebaaa
open Go.RowKit

theorem rds_take_n {w : World} {A : Option Addr} {n c : Nat} {l : List UInt8} (h : Rds w (.slice A n c) (bytesV l)) {m : Nat} (hm : m ≤ l.length) : Rds w (.slice A m c) (bytesV (l.take m)) := by
  obtain ⟨A', c', e, ht⟩ := h.take
  injection e with e1 e2 e3
  subst e1 e3
  rw [bytesV_take]
  exact ht m (by rw [bytesV_length]; exact hm)

set_option maxRecDepth 100000 in
set_option maxHeartbeats 1000000 in
theorem ref_truncate {w : World} {b : Nat} {d : DS} {V : Nat → Value} (h : RefAt w b d V) (hok : d.Ok) (at_ n : Int) :
    Calls Try.prog 70 #[.pointer (some ⟨b, 0, none⟩), .int .i64 at_, .int .i64 n] w fun e w' => e = .returned (.int .i64 (d.truncate at_ n).2) ∧ RefEnd w b V (d.truncate at_ n).1 w' := by
  have hB := hide (ref_begin h at_)
  have H := hide h
  by_cases hc : d.code at_ = 0
  · unfold DS.truncate
    rw [gate_ref hc]
    rw [hc] at hB
    obtain ⟨h0, i, rfl, hi⟩ := code_zero hc
    rw [Int.toNat_natCast]
    obtain ⟨A, c, eV, -⟩ := h.data hi
    have hd0 := h.cell_data hi
    rw [eV] at hd0
    by_cases hn : n < 0
    · have e : d.cut i n = 1 := by unfold DS.cut; rw [if_pos (.inl hn)]
      simp only [e]
      rw [if_pos (by decide)]
      clear h hc h0 hok e eV
      go_enter Try.func70, Try.ntmps70
      go_wp2_with (go_at_call 76; refine hB.out.mono ?_; rintro e w1 ⟨rfl, rfl⟩)
      go_ret
      exact ⟨rfl, V, H.out, fun _ => .inl, Only.refl _ _⟩
    · by_cases hm : (d.len i : Int) < n
      · have e : d.cut i n = 1 := by unfold DS.cut; rw [if_pos (.inr hm)]
        simp only [e]
        rw [if_pos (by decide)]
        clear h hc h0 hok e eV
        go_enter Try.func70, Try.ntmps70
        go_wp2_with (go_at_call 76; refine hB.out.mono ?_; rintro e w1 ⟨rfl, rfl⟩)
        go_ret
        exact ⟨rfl, V, H.out, fun _ => .inl, Only.refl _ _⟩
      · have e : d.cut i n = 0 := by unfold DS.cut; rw [if_neg (by omega)]
        simp only [e]
        rw [if_neg (by decide)]
        have hF := hide (ref_fails h hok.plan)
        have hdl : d.len i ≤ 16777216 := hok.len hi
        obtain ⟨m, rfl⟩ := Int.eq_ofNat_of_zero_le (show 0 ≤ n by omega)
        rw [Int.toNat_natCast]
        clear h hc h0 hok e eV
        cases hfo : d.failed.off with
        | true =>
          rw [hfo] at hF
          go_enter Try.func70, Try.ntmps70
          go_wp2_with (first
            | go_at_call 76; refine hB.out.mono ?_; rintro e w1 ⟨rfl, rfl⟩
            | (go_at_call 86; refine hF.out.mono ?_; rintro e w1 ⟨rfl, g1, g2⟩; have G1 := hide g1; have G2 := hide g2; clear g1 g2))
          go_ret
          exact ⟨rfl, V, G1.out, fun _ => .inl, G2.out⟩
        | false =>
          rw [hfo] at hF
          have hml : m ≤ d.len i := by omega
          go_enter Try.func70, Try.ntmps70
          go_wp2_with (first
            | go_at_call 76; refine hB.out.mono ?_; rintro e w1 ⟨rfl, rfl⟩
            | (go_at_call 86; refine hF.out.mono ?_; rintro e w1 ⟨rfl, g1, g2⟩; have G1 := hide g1; have G2 := hide g2; obtain ⟨A', c', eV, hcc⟩ := g1.data hi; rw [failed_len] at eV hcc; have hd := g1.cell_data hi; have hf := g1.frozen (1 + i); have hs := g1.cell_syn hi; have hf9 := g1.frozen (9 + i); rw [eV] at hd; have HR := hide (eV ▸ g1.rds i hi); have HD := hide (show ∀ w2 : World, Only (fun _ => False) w1 w2 → w2.cell? ⟨b, 1 + i, none⟩ = some (.slice A' (d.len i) c') ∧ w2.frozen? ⟨b, 1 + i, none⟩ = false ∧ w2.cell? ⟨b, 9 + i, none⟩ = some (.int .i64 (d.failed.syn i)) ∧ w2.frozen? ⟨b, 9 + i, none⟩ = false from fun w2 ho => ⟨ho.cell hd id, frozen_of_heap (ho.heap g1.blk id) _, ho.cell hs id, frozen_of_heap (ho.heap g1.blk id) _⟩); have hd2 : (w1.alloc (.cells #[] 5)).drew.cell? ⟨b, 1 + i, none⟩ = some (.slice A' (d.len i) c') := ((Only.refl (fun _ => False) w1).alloc _).drew.cell hd id; clear g1 g2 eV))
          have hi' : (i : Int) < 8 := by omega
          have hmc : (m : Int) ≤ c' := by omega
          have hm0 : (0 : Int) ≤ m := by omega
          have hs1 := hide (show Src Try.prog 1 33 (.slice A' m c') _ (bytesV ((d.failed.data i).take m)) (w1.alloc (.cells #[] 5)).drew from ((rds_take_n HR.out (by rw [failed_data]; exact hml)).only ((Only.refl (fun _ => False) w1).alloc _).drew (fun _ _ => id)).src Try.underlying33 (bytesV_one _))
          go_region_law (refine step_app rfl _ _ 33 rfl (.slice (some ⟨w1.heap.size, 0, none⟩) 0 0) 0 [] rfl (made0d w1) _ rfl _ ((d.failed.data i).take m) hs1.out (by rw [List.length_take]; simp only [List.length_nil]; unfold lim47; omega) ?_; intro v1 w2 g1 g2 g3; have F1 := hide (fresh1 g1 g2 g3); obtain ⟨A1, n1, c1, rfl⟩ := own_form' g1; obtain ⟨p1, p2, p3, p4⟩ := HD.out w2 F1.out.only; clear g1 g2 g3)
          all_goals
            have E := hide (((F1.out.store G1.out hi).syn hi m).after G2.out)
            go_wp2
            go_ret
            first
              | exact ⟨rfl, E.out⟩
              | exact ⟨rfl, E.out.drew⟩
  · unfold DS.truncate
    rw [gate_code hc]
    generalize d.code at_ = c at *
    clear h
    go_enter Try.func70, Try.ntmps70
    go_wp2_with (go_at_call 76; refine hB.out.mono ?_; rintro e w1 ⟨rfl, rfl⟩)
    go_ret
    exact ⟨rfl, V, H.out, fun _ => .inl, Only.refl _ _⟩

/-- One round of Crash. -/
theorem RefEnd.next {w wr w2 : World} {b : Nat} {V V' : Nat → Value} {d : DS} {keep : List Int} {k m n1 : Nat} (h0 : (∀ x, rfoot b V' x → rfoot b V x ∨ w.heap.size ≤ x) ∧ Only (fun x => x = b) w wr)
    (h : RefEnd wr b V' { d.crashTo keep k with data := upd (d.crashTo keep k).data k ((d.data k).take m) } w2) (hk : k < 8) (hn : n1 = m) (hm : m = d.left keep k) :
    RefEnd w b V (d.crashTo keep (k + 1)) (w2.setCell ⟨b, 9 + k, none⟩ (.int .i64 n1)) := by
  subst hn hm
  rw [crashTo_succ]
  obtain ⟨V2, h1, h2, h3⟩ := h.syn hk (d.left keep k)
  exact ⟨V2, h1, fun x hx => (h2 x hx).elim (h0.1 x) fun hl => .inr (Nat.le_trans h0.2.size hl), h0.2.trans' h3⟩

set_option maxRecDepth 100000 in
set_option maxHeartbeats 4000000 in
theorem ref_crash_at {w : World} {b : Nat} {d : DS} {V : Nat → Value} (h : RefAt w b d V) (hok : d.Ok) (A0 : Option Addr) (n0 c0 : Nat) (keep : List Int) (hn : n0 = keep.length) (hx : ∀ j, j < keep.length → ∃ ab ao, A0 = some ⟨ab, ao, none⟩ ∧ ab ≠ b ∧ w.cell? ⟨ab, ao + j, none⟩ = some (.int .i64 (keep.getD j 0))) :
    Calls Try.prog 74 #[.pointer (some ⟨b, 0, none⟩), .slice A0 n0 c0] w fun e w' => e = .returned (.tuple #[]) ∧ RefEnd w b V (d.crash keep) w' := by
  subst hn
  have HX := hide hx
  have HK := hide hok
  have H0 : Hid (RefEnd w b V (d.crashTo keep 0) w) := ⟨V, by rw [crashTo_zero]; exact h, fun _ => .inl, Only.refl _ _⟩
  clear hx hok h
  go_enter Try.func74, Try.ntmps74
  go_wp2
  go_loopw [6] (fun i wr => ∃ k : Nat, k ≤ 8 ∧ i = .int .i64 k ∧ RefEnd w b V (d.crashTo keep k) wr) (fun i _ => 8 - (intOf i).toNat)
  case atStart => exact ⟨0, by omega, rfl, H0⟩
  case round =>
    obtain ⟨k, hk, rfl, hC⟩ := hrel
    by_cases hlt : k < 8
    · obtain ⟨V', hA, hS, ho⟩ := hC
      obtain ⟨A, c, eV, hcap⟩ := hA.data hlt
      have e2 : (d.crashTo keep k).len k = d.len k := by unfold DS.len; rw [(crashTo_at d keep k).1]
      rw [e2] at eV hcap
      have hd := hA.cell_data hlt
      have hs := hA.cell_syn hlt
      rw [eV] at hd
      rw [(crashTo_at d keep k).2] at hs
      have hf := hA.frozen (1 + k)
      have hf2 := hA.frozen (9 + k)
      have hsy := HK.out.syn k hlt
      have hbd := HK.out.len hlt
      have hi' : (k : Int) < 8 := by omega
      have hr := hA.rds k hlt
      rw [eV, (crashTo_at d keep k).1] at hr
      have HR := hide hr
      have HA1 := hide hA
      have HA := hide (And.intro hS ho)
      have HD := hide (show ∀ w2 : World, Only (fun _ => False) wr w2 → w2.cell? ⟨b, 1 + k, none⟩ = some (.slice A (d.len k) c) ∧ w2.frozen? ⟨b, 1 + k, none⟩ = false ∧ w2.cell? ⟨b, 9 + k, none⟩ = some (.int .i64 (d.syn k)) ∧ w2.frozen? ⟨b, 9 + k, none⟩ = false from fun w2 ho => ⟨ho.cell hd id, frozen_of_heap (ho.heap hA.blk id) _, ho.cell hs id, frozen_of_heap (ho.heap hA.blk id) _⟩)
      have hL := hide (show d.left keep k = d.syn k + if k < keep.length then min (keep.getD k 0).toNat (d.len k - d.syn k) else 0 from rfl)
      by_cases hkl : k < keep.length
      · obtain ⟨ab, ao, rfl, hab, hcell⟩ := HX.out k hkl
        have hce := ho.cell hcell hab
        clear hcell hab e2 eV hA hS ho hr
        obtain ⟨x, hxe⟩ : ∃ x, keep.getD k 0 = x := ⟨_, rfl⟩
        rw [hxe] at hce
        have hxe' := hide hxe
        clear hxe
        by_cases hx0 : x < 0
        · have HM := hide (show d.syn k = d.left keep k from by rw [hL.out, if_pos hkl, hxe'.out]; omega)
          have hsc : d.syn k ≤ c := by omega
          go_wp2
          go_quiet (fail)
          go_wp2
          generalize hWe : wr.drewN nq = W
          have HW : Hid (Only (fun _ => False) wr W) := hWe ▸ (Only.refl _ wr).drewN nq
          clear hWe
          have hwp : IntKind.i64.wrap (((d.syn k : Nat) : Int)) = ((d.syn k : Nat) : Int) := by rw [IntKind.wrap_i64]; omega
          obtain ⟨r1, r2, r3, r4⟩ := HD.out (W) HW.out
          have hwc : ((d.syn k : Nat) : Int) ≤ c := by omega
          obtain ⟨q1, q2, q3, q4⟩ := HD.out ((W).alloc (.cells #[] 5)).drew (HW.out.alloc _).drew
          have hs1 := hide (show Src Try.prog 1 33 (.slice A (d.syn k) c) _ (bytesV ((d.data k).take (d.syn k))) ((W).alloc (.cells #[] 5)).drew from ((rds_take_n HR.out (show d.syn k ≤ d.len k by omega)).only (HW.out.alloc _).drew (fun _ _ => id)).src Try.underlying33 (bytesV_one _))
          go_region_law (refine step_app rfl _ _ 33 rfl (.slice (some ⟨W.heap.size, 0, none⟩) 0 0) 0 [] rfl (made0d (W)) _ rfl _ ((d.data k).take (d.syn k)) hs1.out (by rw [List.length_take]; simp only [List.length_nil]; unfold lim47; omega) ?_; intro v1 w2 g1 g2 g3; have F1 := hide (fresh1 (w1 := W) g1 g2 g3); obtain ⟨A1, n1, c1, rfl⟩ := own_form' g1; obtain ⟨p1, p2, p3, p4⟩ := HD.out w2 (HW.out.trans' F1.out.only); have E1 := hide (own_n F1.out.own); clear g1 g2 g3)
          all_goals
            have hn1 : n1 = d.syn k := by rw [E1.out, List.length_take]; exact Nat.min_eq_left (show d.syn k ≤ d.len k by omega)
            have HE := hide (RefEnd.next HA.out (RefEnd.after (F1.out.store (HA1.out.grow HW.out) hlt) (HW.out.mono fun _ _ h => h.elim)) hlt hn1 HM.out)
            clear hn1
            go_wp2
            go_region
            all_goals
              go_wp2
              go_roundw
              case rel => exact ⟨k + 1, by omega, by go_num, by first | exact HE.out | exact HE.out.drew⟩
              case measure => simp [intOf]; omega
        · obtain ⟨y, rfl⟩ := Int.eq_ofNat_of_zero_le (show 0 ≤ x by omega)
          by_cases hxl : ¬ (d.len k : Int) - (d.syn k : Int) < (y : Int)
          · obtain ⟨z, hz⟩ : ∃ z, z = d.syn k + y := ⟨_, rfl⟩
            have HM := hide (show z = d.left keep k from by rw [hL.out, if_pos hkl, hxe'.out]; omega)
            have hsc : z ≤ c := by omega
            have hzl : z ≤ d.len k := by omega
            have HZ := hide hz
            clear hz
            go_wp2
            go_quiet (fail)
            go_wp2
            generalize hWe : wr.drewN nq = W
            have HW : Hid (Only (fun _ => False) wr W) := hWe ▸ (Only.refl _ wr).drewN nq
            clear hWe
            have hwp : IntKind.i64.wrap (((d.syn k : Nat) : Int) + ((y : Nat) : Int)) = ((z : Nat) : Int) := by have hz := HZ.out; rw [IntKind.wrap_i64]; omega
            obtain ⟨r1, r2, r3, r4⟩ := HD.out (W) HW.out
            have hwc : ((z : Nat) : Int) ≤ c := by omega
            obtain ⟨q1, q2, q3, q4⟩ := HD.out ((W).alloc (.cells #[] 5)).drew (HW.out.alloc _).drew
            have hs1 := hide (show Src Try.prog 1 33 (.slice A (z) c) _ (bytesV ((d.data k).take (z))) ((W).alloc (.cells #[] 5)).drew from ((rds_take_n HR.out (show z ≤ d.len k by omega)).only (HW.out.alloc _).drew (fun _ _ => id)).src Try.underlying33 (bytesV_one _))
            go_region_law (refine step_app rfl _ _ 33 rfl (.slice (some ⟨W.heap.size, 0, none⟩) 0 0) 0 [] rfl (made0d (W)) _ rfl _ ((d.data k).take (z)) hs1.out (by rw [List.length_take]; simp only [List.length_nil]; unfold lim47; omega) ?_; intro v1 w2 g1 g2 g3; have F1 := hide (fresh1 (w1 := W) g1 g2 g3); obtain ⟨A1, n1, c1, rfl⟩ := own_form' g1; obtain ⟨p1, p2, p3, p4⟩ := HD.out w2 (HW.out.trans' F1.out.only); have E1 := hide (own_n F1.out.own); clear g1 g2 g3)
            all_goals
              have hn1 : n1 = z := by rw [E1.out, List.length_take]; exact Nat.min_eq_left (show z ≤ d.len k by omega)
              have HE := hide (RefEnd.next HA.out (RefEnd.after (F1.out.store (HA1.out.grow HW.out) hlt) (HW.out.mono fun _ _ h => h.elim)) hlt hn1 HM.out)
              clear hn1
              go_wp2
              go_region
              all_goals
                go_wp2
                go_roundw
                case rel => exact ⟨k + 1, by omega, by go_num, by first | exact HE.out | exact HE.out.drew⟩
                case measure => simp [intOf]; omega
          · have hxl' : (d.len k : Int) - (d.syn k : Int) < (y : Int) := by omega
            have HM := hide (show d.len k = d.left keep k from by rw [hL.out, if_pos hkl, hxe'.out]; omega)
            go_wp2
            go_quiet (fail)
            go_wp2
            generalize hWe : wr.drewN nq = W
            have HW : Hid (Only (fun _ => False) wr W) := hWe ▸ (Only.refl _ wr).drewN nq
            clear hWe
            have hwp : IntKind.i64.wrap (((d.syn k : Nat) : Int) + (((d.len k : Nat) : Int) - ((d.syn k : Nat) : Int))) = ((d.len k : Nat) : Int) := by rw [IntKind.wrap_i64]; omega
            obtain ⟨r1, r2, r3, r4⟩ := HD.out (W) HW.out
            have hwc : ((d.len k : Nat) : Int) ≤ c := by omega
            obtain ⟨q1, q2, q3, q4⟩ := HD.out ((W).alloc (.cells #[] 5)).drew (HW.out.alloc _).drew
            have hs1 := hide (show Src Try.prog 1 33 (.slice A (d.len k) c) _ (bytesV ((d.data k).take (d.len k))) ((W).alloc (.cells #[] 5)).drew from ((rds_take_n HR.out (show d.len k ≤ d.len k by omega)).only (HW.out.alloc _).drew (fun _ _ => id)).src Try.underlying33 (bytesV_one _))
            go_region_law (refine step_app rfl _ _ 33 rfl (.slice (some ⟨W.heap.size, 0, none⟩) 0 0) 0 [] rfl (made0d (W)) _ rfl _ ((d.data k).take (d.len k)) hs1.out (by rw [List.length_take]; simp only [List.length_nil]; unfold lim47; omega) ?_; intro v1 w2 g1 g2 g3; have F1 := hide (fresh1 (w1 := W) g1 g2 g3); obtain ⟨A1, n1, c1, rfl⟩ := own_form' g1; obtain ⟨p1, p2, p3, p4⟩ := HD.out w2 (HW.out.trans' F1.out.only); have E1 := hide (own_n F1.out.own); clear g1 g2 g3)
            all_goals
              have hn1 : n1 = d.len k := by rw [E1.out, List.length_take]; exact Nat.min_eq_left (show d.len k ≤ d.len k by omega)
              have HE := hide (RefEnd.next HA.out (RefEnd.after (F1.out.store (HA1.out.grow HW.out) hlt) (HW.out.mono fun _ _ h => h.elim)) hlt hn1 HM.out)
              clear hn1
              go_wp2
              go_region
              all_goals
                go_wp2
                go_roundw
                case rel => exact ⟨k + 1, by omega, by go_num, by first | exact HE.out | exact HE.out.drew⟩
                case measure => simp [intOf]; omega
      · have HM : Hid (d.syn k = d.left keep k) := by rw [hL.out, if_neg hkl]; rfl
        have hsc : d.syn k ≤ c := by omega
        clear e2 eV hA hS ho hr
        go_wp2
        have HW := hide (show Only (fun _ => False) wr (wr) from Only.refl _ wr)
        have hwp : IntKind.i64.wrap (((d.syn k : Nat) : Int)) = ((d.syn k : Nat) : Int) := by rw [IntKind.wrap_i64]; omega
        obtain ⟨r1, r2, r3, r4⟩ := HD.out (wr) HW.out
        have hwc : ((d.syn k : Nat) : Int) ≤ c := by omega
        obtain ⟨q1, q2, q3, q4⟩ := HD.out ((wr).alloc (.cells #[] 5)).drew (HW.out.alloc _).drew
        have hs1 := hide (show Src Try.prog 1 33 (.slice A (d.syn k) c) _ (bytesV ((d.data k).take (d.syn k))) ((wr).alloc (.cells #[] 5)).drew from ((rds_take_n HR.out (show d.syn k ≤ d.len k by omega)).only (HW.out.alloc _).drew (fun _ _ => id)).src Try.underlying33 (bytesV_one _))
        go_region_law (refine step_app rfl _ _ 33 rfl (.slice (some ⟨wr.heap.size, 0, none⟩) 0 0) 0 [] rfl (made0d (wr)) _ rfl _ ((d.data k).take (d.syn k)) hs1.out (by rw [List.length_take]; simp only [List.length_nil]; unfold lim47; omega) ?_; intro v1 w2 g1 g2 g3; have F1 := hide (fresh1 (w1 := wr) g1 g2 g3); obtain ⟨A1, n1, c1, rfl⟩ := own_form' g1; obtain ⟨p1, p2, p3, p4⟩ := HD.out w2 (HW.out.trans' F1.out.only); have E1 := hide (own_n F1.out.own); clear g1 g2 g3)
        all_goals
          have hn1 : n1 = d.syn k := by rw [E1.out, List.length_take]; exact Nat.min_eq_left (show d.syn k ≤ d.len k by omega)
          have HE := hide (RefEnd.next HA.out (RefEnd.after (F1.out.store (HA1.out.grow HW.out) hlt) (HW.out.mono fun _ _ h => h.elim)) hlt hn1 HM.out)
          clear hn1
          go_wp2
          go_region
          all_goals
            go_wp2
            go_roundw
            case rel => exact ⟨k + 1, by omega, by go_num, by first | exact HE.out | exact HE.out.drew⟩
            case measure => simp [intOf]; omega
    · obtain rfl : k = 8 := by omega
      obtain ⟨V', hA, hS, ho⟩ := hC
      have hc1 := hA.cell_plan
      have hc2 := hA.cell_off
      have hf1 := hA.frozen 17
      have hf2 := hA.frozen 18
      have H1 := hide hA
      have H2 := hide hS
      have H3 := hide ho
      clear hA hS ho
      go_wp2
      go_end0
      exact ⟨rfl, V', (H1.out.set_plan 0).set_off false, H2.out, (H3.out.setCell (p := ⟨b, 17, none⟩) (.inl rfl) _).setCell (p := ⟨b, 18, none⟩) (.inl rfl) _⟩


end Go.Proofs.Ytldhpbmcpmebaaa
