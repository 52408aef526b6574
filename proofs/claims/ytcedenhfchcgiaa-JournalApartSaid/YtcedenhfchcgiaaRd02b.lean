/- The decoder's int, text, value, walked. -/
import Derived.Test.YtcedenhfchcgiaaRd02
import Derived.Laws.DeepNot64
set_option linter.unusedVariables false
set_option linter.unusedSimpArgs false
namespace Go.Proofs.Ytcedenhfchcgiaa.Cd
open Go.RowKit

theorem i64_xor_0 (a : Nat) (ha : a < 9223372036854775808) : bits .xor .i64 (a : Int) 0 = a := by
  show IntKind.i64.wrap ((BitVec.ofInt 64 (a : Int) ^^^ BitVec.ofInt 64 0).toNat : Int) = _
  have h1 : BitVec.ofInt 64 0 = 0#64 := by decide
  rw [h1, BitVec.xor_zero, ofInt_u64 a (by omega)]
  simp [IntKind.wrap, IntKind.bits, IntKind.signed]
  omega
theorem i64_xor_m1 (a : Nat) (ha : a < 9223372036854775808) : bits .xor .i64 (a : Int) (-1) = -1 - (a : Int) := by
  rw [← i64_not a ha]
  show IntKind.i64.wrap ((BitVec.ofInt 64 (a : Int) ^^^ BitVec.ofInt 64 (-1)).toNat : Int) = IntKind.i64.wrap ((BitVec.ofInt 64 (-1) ^^^ BitVec.ofInt 64 (a : Int)).toNat : Int)
  rw [BitVec.xor_comm]
theorem unzig_bits (n : Nat) (hn : n < 18446744073709551616) (x y : Int) (hx : x = ((n / 2 : Nat) : Int)) (hy : y = -((n % 2 : Nat) : Int)) : bits .xor .i64 x y = unzig n := by
  subst hx
  unfold unzig
  by_cases h : n % 2 = 0
  · rw [if_pos h]
    have : y = 0 := by omega
    rw [this, i64_xor_0 _ (by omega)]
  · rw [if_neg h]
    have : y = -1 := by omega
    rw [this, i64_xor_m1 _ (by omega)]
    omega
theorem and1 (n : Nat) (hn : n < 18446744073709551616) : bits .and .u64 (n : Int) 1 = ((n % 2 : Nat) : Int) := by
  have h := u64_and_nat n 1 hn (by omega)
  rw [nat_mask1] at h
  exact h

/-- A part of a slice of bytes, as read. -/
theorem rds_slice {w : World} {A : Option Addr} {n c i j : Nat} {l : List UInt8} (h : Rds w (.slice A n c) (bytesV l)) (hij : i ≤ j) (hj : j ≤ l.length) : Rds w (sliced A i j c 1) (bytesV ((l.drop i).take (j - i))) := by
  obtain ⟨A', c', e, hle, hm, hnil, hsp, hc⟩ := h
  injection e with e1 e2 e3
  subst e1 e3
  rw [bytesV_length] at hle hsp
  have hlen : ((l.drop i).take (j - i)).length = j - i := by rw [List.length_take, List.length_drop]; omega
  unfold sliced
  by_cases hci : c = i
  · rw [if_pos hci]
    have h0 : j - i = 0 := by omega
    have hE : (l.drop i).take (j - i) = [] := List.eq_nil_of_length_eq_zero (by rw [hlen, h0])
    rw [hE, h0]
    refine ⟨A, c - i, rfl, Nat.zero_le _, by omega, fun _ => by omega, fun a ha h => absurd h (by simp [bytesV]), fun a ha k u hk => by simp [bytesV] at hk⟩
  · rw [if_neg hci]
    refine ⟨A.map (·.add (i * 1)), c - i, by rw [bytesV_length, hlen], by rw [bytesV_length, hlen]; omega, by omega, ?_, ?_, ?_⟩
    · intro hA
      cases A with
      | none => have := hnil rfl; omega
      | some a => cases hA
    · intro a ha h0
      rw [bytesV_length, hlen] at h0
      cases A with
      | none => cases ha
      | some b =>
        have hs := hsp b rfl (by omega)
        simp only [Option.map_some, Option.some.injEq] at ha
        rw [← ha, addr_eta b hs]
    · intro a ha k u hk
      cases A with
      | none => cases ha
      | some b =>
        have hkl := (List.getElem?_eq_some_iff.1 hk).1
        rw [bytesV_length, hlen] at hkl
        have hs := hsp b rfl (by omega)
        simp only [Option.map_some, Option.some.injEq] at ha
        rw [← ha, addr_eta b hs, addr_eta _ rfl]
        have hk2 : (bytesV l)[i + k]? = some u := by
          rw [← hk]
          simp only [bytesV, List.getElem?_map, List.getElem?_take, List.getElem?_drop]
          rw [if_pos hkl]
        have := hc b rfl (i + k) u hk2
        rw [addr_eta b hs] at this
        rw [← this]
        congr 2
        simp only [Nat.mul_one]
        omega

theorem slice_u8 (A : Option Addr) (n c i j : Nat) (W : World) (x y : Int) (hx : x = i) (hy : y = j) (hij : i ≤ j) (hj : j ≤ c) : (Instr.slice 23 (.slice A n c) (some (.int .i64 x)) (some (.int .i64 y)) none).run Try.prog W = .ok (sliced A i j c 1) W := by
  subst hx hy
  have hsz : Try.prog.info? (Try.prog.elem 23) = Try.prog.info? 5 := by kernel_rfl
  obtain ⟨i0, hi, hz0, hz1, hz2⟩ := info_parts info_u8
  rw [run_slice_lh (w := W) (t := 23) (a := A) (len := n) (cap := c) (ht := by kernel_rfl) .i64 .i64 i j (by omega) (by omega) (by omega)]
  simp [sizeOf, typeInfo, hsz, hi, hz1]

theorem dec_cells {w : World} {g : Nat} {v : Value} {k : Int} (h : Dec w g v k) : w.cell? ⟨g, 0, none⟩ = some v ∧ w.cell? ⟨g, 1, none⟩ = some (.int .i64 k) ∧ w.frozen? ⟨g, 1, none⟩ = false :=
  ⟨cell_of_heap h 0, cell_of_heap h 1, frozen_of_heap h 1⟩
theorem dec_set {w : World} {g : Nat} {v : Value} {k : Int} (h : Dec w g v k) (k2 : Int) (q : Nat) : Dec ((w.drewN q).setCell ⟨g, 1, none⟩ (.int .i64 k2)) g v k2 := by
  show (((w.drewN q).setCell ⟨g, 1, none⟩ (.int .i64 k2)).heap[g]? : Option Obj) = _
  rw [heap_setCell_at (w := w.drewN _) h]
  simp

set_option maxRecDepth 100000 in
set_option maxHeartbeats 1000000 in
theorem dtext_any {w : World} {g : Nat} {v : Value} {k : Nat} {l : List UInt8} (h : Dec w g v k) (hv : Rds w v (bytesV l)) (hvg : rdBlock v ≠ some g) (hl : l.length ≤ 9223372036854775000) (hk : k ≤ l.length) (most : Nat) (hm : most ≤ 9223372036854775807) :
    Calls Try.prog 52 #[.pointer (some ⟨g, 0, none⟩), .int .i64 most] w (ReadsEnd w g v (.string (rdText l k most).1) (rdText l k most).2.1 (rdText l k most).2.2) := by
  have HU := hide (uint_any h hv hvg hl hk)
  obtain ⟨rt, hrt⟩ : ∃ r, rdText l k most = r := ⟨_, rfl⟩
  rw [hrt]
  unfold rdText at hrt
  obtain ⟨⟨n, x, c⟩, hr⟩ : ∃ r, rdUint l k = r := ⟨_, rfl⟩
  rw [hr] at HU hrt
  simp only at hrt
  have HT := hide hrt
  have HI : Hid (c = 0 → n < 18446744073709551616 ∧ x ≤ l.length) := fun hc => by subst hc; exact ⟨(rdUint_inv hr).1, (rdUint_inv hr).2.2.1⟩
  have HV := hide (fun (w2 : World) (ho : Only (fun y => y = g) w w2) => hv.only ho fun y hy e => hvg (by rw [hy, e]))
  obtain ⟨A, vn, vc, rfl⟩ := rds_form hv
  have hvn : vn = l.length := by obtain ⟨A, c, e, _⟩ := hv; injection e with _ e _; rw [e, bytesV_length]
  have hvc : vn ≤ vc := by obtain ⟨A, c, e, h, _⟩ := hv; injection e with _ e e2; rw [e, e2]; exact h
  subst hvn
  clear h hv hvg hk hr hrt
  have hmw : IntKind.u64.wrap (most : Int) = most := by rw [IntKind.wrap_u64]; omega
  go_enter Try.func52, Try.ntmps52
  go_wp2_with fail
  refine HU.out.mono ?_
  rintro e w2 ⟨hO, hE⟩
  have O := hide hO
  clear hO
  rcases hE with ⟨h0, rfl, hD⟩ | ⟨h0, rfl⟩
  · try simp only at h0
    subst h0
    obtain ⟨hn, hx⟩ := HI.out rfl
    obtain ⟨y0, y1, z1⟩ := dec_cells hD
    have D := hide hD
    clear hD HU
    have ht := HT.out
    rw [if_pos rfl] at ht
    by_cases hmost : most < n
    · rw [if_pos hmost] at ht
      subst ht
      have hI : (most : Int) < n := by omega
      go_wp2_with (go_at_call 51; refine (stop_any _ _ _).mono ?_; rintro e w3 ⟨rfl, rfl⟩)
      exact ⟨rfl, O.out, .inr ⟨by decide, rfl⟩⟩
    · rw [if_neg hmost] at ht
      have hsub : IntKind.u64.wrap (IntKind.i64.wrap ((l.length : Int) - x)) = ((l.length - x : Nat) : Int) := by rw [IntKind.wrap_i64, IntKind.wrap_u64]; omega
      by_cases hrest : l.length - x < n
      · rw [if_pos hrest] at ht
        subst ht
        have hd : decide (l.length - x < n) = true := by simpa using hrest
        go_wp2_with (go_at_call 51; refine (stop_any _ _ _).mono ?_; rintro e w3 ⟨rfl, rfl⟩)
        go_quiet (fail)
        go_wp2_with (go_at_call 51; refine (stop_any _ _ _).mono ?_; rintro e w3 ⟨rfl, rfl⟩)
        exact ⟨rfl, O.out.drewN _, .inr ⟨by decide, rfl⟩⟩
      · rw [if_neg hrest] at ht
        have HTT := hide ht
        clear ht
        have hd : decide (l.length - x < n) = false := by simpa using hrest
        have hnw : IntKind.i64.wrap (n : Int) = n := by rw [IntKind.wrap_i64]; omega
        have hadd : IntKind.i64.wrap ((x : Int) + n) = (x : Int) + n := by rw [IntKind.wrap_i64]; omega
        have hsl : ∀ W, (Instr.slice 23 (.slice A l.length vc) (some (.int .i64 (x : Int))) (some (.int .i64 ((x : Int) + n))) none).run Try.prog W = .ok (sliced A x (x + n) vc 1) W := fun W => slice_u8 A _ vc x (x + n) W _ _ rfl (by simp) (by omega) (by omega)
        have hRd := fun q => run_str (rds_slice ((HV.out w2 O.out).only ((Only.refl (fun _ => False) w2).drewN q) fun _ _ => id) (show x ≤ x + n by omega) (show x + n ≤ l.length by omega))
        rw [show x + n - x = n by omega] at hRd
        obtain ⟨A3, n3, c3, h3⟩ : ∃ A3 n3 c3, sliced A x (x + n) vc 1 = .slice A3 n3 c3 := ⟨_, _, _, rfl⟩
        rw [h3] at hsl hRd
        have hD2 := hide (fun q => dec_set D.out ((x : Int) + n) q)
        clear h3
        go_wp2
        go_quiet (fail)
        go_wp2
        go_quiet (fail)
        go_wp2
        go_ret
        have ht := HTT.out
        subst ht
        exact ⟨(O.out.drewN _).setCell (p := ⟨g, 1, none⟩) (.inl rfl) _, .inl ⟨rfl, rfl, by have h3 := hD2.out; simpa using h3 _⟩⟩
  · try simp only at h0
    have ht := HT.out
    rw [if_neg h0] at ht
    subst ht
    exact ⟨rfl, O.out, .inr ⟨h0, rfl⟩⟩

end Go.Proofs.Ytcedenhfchcgiaa.Cd
