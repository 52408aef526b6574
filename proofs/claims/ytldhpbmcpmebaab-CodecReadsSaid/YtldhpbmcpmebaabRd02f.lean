/- The reference's Int and Text, walked; the codec's and the reference's at any place. -/
import Derived.Test.YtldhpbmcpmebaabRd02e
set_option linter.unusedVariables false
set_option linter.unusedSimpArgs false
namespace Go.Proofs.Ytldhpbmcpmebaab.Cd
open Go.RowKit

/-- What Text answers. -/
def readText (l : List UInt8) (k most : Int) : ByteArray × Nat × Int := if k < 0 ∨ (l.length : Int) < k ∨ most < 0 then (⟨#[]⟩, 0, 1) else rdText l k.toNat most.toNat
/-- What Value answers. -/
def readVal (l : List UInt8) (k : Int) : VD × Nat × Int := if k < 0 ∨ (l.length : Int) < k then (vd0, 0, 1) else rdVal l k.toNat
theorem readUint_zero (l : List UInt8) (k : Int) (h : (readUint l k).2.2 ≠ 0) : (readUint l k).1 = 0 ∧ (readUint l k).2.1 = 0 := by
  unfold readUint at h ⊢
  split
  · exact ⟨rfl, rfl⟩
  · rename_i h1
    rw [if_neg h1] at h
    exact rdU_zero _ _ _ _ _ h
theorem readUint_ok (l : List UInt8) (k : Int) (h : (readUint l k).2.2 = 0) : 0 ≤ k ∧ k ≤ l.length ∧ readUint l k = rdUint l k.toNat := by
  unfold readUint at h ⊢
  split
  · rename_i h1; rw [if_pos h1] at h; cases h
  · rename_i h1; exact ⟨by omega, by omega, rfl⟩

theorem Uint_any {w : World} (x : Value) (l : List UInt8) (k : Int) (hx : Rds w x (bytesV l)) (hxw : ∀ b, rdBlock x = some b → b < w.heap.size) (hl : l.length ≤ 9223372036854775000) :
    Calls Try.prog 27 #[x, .int .i64 k] w fun e w' => e = .returned (.tuple #[.int .u64 (readUint l k).1, .int .i64 (readUint l k).2.1, .int .i64 (readUint l k).2.2]) ∧ Only (fun _ => False) w w' := by
  unfold readUint
  by_cases hk : k < 0 ∨ (l.length : Int) < k
  · rw [if_pos hk]; exact Uint_bad x l k hx hl hk
  · rw [if_neg hk]
    have := Uint_in x l k.toNat hx hxw hl (by omega)
    rw [Int.toNat_of_nonneg (by omega)] at this
    exact this
theorem Int_any {w : World} (x : Value) (l : List UInt8) (k : Int) (hx : Rds w x (bytesV l)) (hxw : ∀ b, rdBlock x = some b → b < w.heap.size) (hl : l.length ≤ 9223372036854775000) :
    Calls Try.prog 29 #[x, .int .i64 k] w fun e w' => e = .returned (.tuple #[.int .i64 (unzig (readUint l k).1), .int .i64 (readUint l k).2.1, .int .i64 (readUint l k).2.2]) ∧ Only (fun _ => False) w w' := by
  unfold readUint
  by_cases hk : k < 0 ∨ (l.length : Int) < k
  · rw [if_pos hk]; exact Int_bad x l k hx hl hk
  · rw [if_neg hk]
    have := Int_in x l k.toNat hx hxw hl (by omega)
    rw [Int.toNat_of_nonneg (by omega)] at this
    exact this
theorem Value_any {w : World} (x : Value) (l : List UInt8) (k : Int) (hx : Rds w x (bytesV l)) (hxw : ∀ b, rdBlock x = some b → b < w.heap.size) (hl : l.length ≤ 9223372036854775000) :
    Calls Try.prog 36 #[x, .int .i64 k] w fun e w' => e = .returned (.tuple #[aggV (readVal l k).1, .int .i64 (readVal l k).2.1, .int .i64 (readVal l k).2.2]) ∧ Only (fun _ => False) w w' := by
  unfold readVal
  by_cases hk : k < 0 ∨ (l.length : Int) < k
  · rw [if_pos hk]; exact Value_bad x l k hx hl hk
  · rw [if_neg hk]
    have := Value_in x l k.toNat hx hxw hl (by omega)
    rw [Int.toNat_of_nonneg (by omega)] at this
    exact this

set_option maxRecDepth 100000 in
set_option maxHeartbeats 1000000 in
theorem Text_neg {w : World} (x : Value) (l : List UInt8) (k : Nat) (most : Int) (hx : Rds w x (bytesV l)) (hl : l.length ≤ 9223372036854775000) (hk : k ≤ l.length) (hm : most < 0) :
    Calls Try.prog 31 #[x, .int .i64 k, .int .i64 most] w fun e w' => e = .returned (.tuple #[.string ⟨#[]⟩, .int .i64 0, .int .i64 1]) ∧ Only (fun _ => False) w w' := by
  obtain ⟨A, n, c, rfl⟩ := rds_form hx
  have ho := readW_only w #[.string ⟨#[]⟩] 9 A n c k
  have hW := readW_heap w #[.string ⟨#[]⟩] 9 A n c k
  have hD : Dec (readW w #[.string ⟨#[]⟩] 9 A n c k) (w.heap.size + 1 + 1 + 1) (.slice A n c) k := hW.2.2.2
  have HB := hide (begin_ok hD (hx.only ho fun _ _ => id) (by omega) (by omega))
  have hmf : ∀ (fn : Fn) (first cap : Array Value) (w : World), (Instr.makeFunc fn first cap).run Try.prog w = .ok (.func fn first cap) w := fun _ _ _ _ => rfl
  have HO := hide ho
  have HW := hide hW
  clear hx hk hD ho hW
  go_enter_defers Try.func31, Try.ntmps31
  go_wp2_with fail
  refine HB.out.mono ?_
  rintro e w2 ⟨⟨q, rfl⟩, rfl⟩
  go_wp2_with (go_at_call 75; refine (stop_any _ _ _).mono ?_; rintro e w3 ⟨rfl, rfl⟩)
  have V1 := hide ((HW.out.1 : ((readW w #[.string ⟨#[]⟩] 9 A n c k).drewN q).heap[w.heap.size]? = _))
  have V2 := hide ((HW.out.2.1 : ((readW w #[.string ⟨#[]⟩] 9 A n c k).drewN q).heap[w.heap.size + 1]? = _))
  have V3 := hide ((HW.out.2.2.1 : ((readW w #[.string ⟨#[]⟩] 9 A n c k).drewN q).heap[w.heap.size + 1 + 1]? = _))
  refine leaves_cons (f := 74) (args := #[.pointer (some ⟨w.heap.size, 0, none⟩), .pointer (some ⟨w.heap.size + 1, 0, none⟩), .pointer (some ⟨w.heap.size + 1 + 1, 0, none⟩)]) (by simp) (by simp [go_sem]) ?_
  refine (catch_panickingText w.heap.size (w.heap.size + 1) (w.heap.size + 1 + 1) 1 [] ((readW w #[.string ⟨#[]⟩] 9 A n c k).drewN q) (.string ⟨#[]⟩) (.int .i64 0) (.int .i64 0) 9 3 31 V1.out V2.out V3.out (by omega) (by omega) (by omega)).mono ?_
  rintro e u' w'' ⟨rfl, rfl, w3, h3, rfl⟩
  have c1_0 := cell_of_heap (h3.heap V1.out id) 0
  have c2 := cell_of_heap (h3.heap V2.out id) 0
  have c3 := cell_of_heap (h3.heap V3.out id) 0
  simp [Leaves, settle, results, Try.results31, go_sem, c1_0, c2, c3]
  exact ((((HO.out.drewN q).trans' h3).setCell (p := ⟨w.heap.size, 0, none⟩) (.inr (by simp)) _).setCell (p := ⟨w.heap.size + 1, 0, none⟩) (.inr (by simp)) _).setCell (p := ⟨w.heap.size + 1 + 1, 0, none⟩) (.inr (by simp; omega)) _
theorem Text_any {w : World} (x : Value) (l : List UInt8) (k most : Int) (hx : Rds w x (bytesV l)) (hxw : ∀ b, rdBlock x = some b → b < w.heap.size) (hl : l.length ≤ 9223372036854775000) (hm : most ≤ 9223372036854775807) :
    Calls Try.prog 31 #[x, .int .i64 k, .int .i64 most] w fun e w' => e = .returned (.tuple #[.string (readText l k most).1, .int .i64 (readText l k most).2.1, .int .i64 (readText l k most).2.2]) ∧ Only (fun _ => False) w w' := by
  unfold readText
  by_cases hk : k < 0 ∨ (l.length : Int) < k
  · rw [if_pos (by omega)]; exact Text_bad x l k most hx hl hk
  · by_cases hn : most < 0
    · rw [if_pos (.inr (.inr hn))]
      have := Text_neg x l k.toNat most hx hl (by omega) hn
      rw [Int.toNat_of_nonneg (by omega)] at this
      exact this
    · rw [if_neg (by omega)]
      have := Text_in x l k.toNat hx hxw hl (by omega) most.toNat (by omega)
      rw [Int.toNat_of_nonneg (by omega), Int.toNat_of_nonneg (by omega)] at this
      exact this

theorem refUint_any {w : World} (A : Option Addr) (n c : Nat) (l : List UInt8) (k : Int) (hx : Rds w (.slice A n c) (bytesV l)) (hl : l.length ≤ 9223372036854775000) :
    Calls Try.prog 28 #[.slice A n c, .int .i64 k] w fun e w' => e = .returned (.tuple #[.int .u64 (readUint l k).1, .int .i64 (readUint l k).2.1, .int .i64 (readUint l k).2.2]) ∧ w' = w := by
  unfold readUint
  by_cases hk : k < 0 ∨ (l.length : Int) < k
  · rw [if_pos hk]; exact refUint_bad A n c l k hx hk
  · rw [if_neg hk]
    have := refUint_in A n c l k.toNat hx hl (by omega)
    rw [Int.toNat_of_nonneg (by omega)] at this
    exact this

set_option maxRecDepth 100000 in
set_option maxHeartbeats 1000000 in
theorem refInt_any {w : World} (A : Option Addr) (n c : Nat) (l : List UInt8) (k : Int) (hx : Rds w (.slice A n c) (bytesV l)) (hl : l.length ≤ 9223372036854775000) :
    Calls Try.prog 30 #[.slice A n c, .int .i64 k] w fun e w' => e = .returned (.tuple #[.int .i64 (unzig (readUint l k).1), .int .i64 (readUint l k).2.1, .int .i64 (readUint l k).2.2]) ∧ w' = w := by
  have HU := hide (refUint_any A n c l k hx hl)
  have HZ := hide (readUint_zero l k)
  have HK := hide (readUint_ok l k)
  obtain ⟨⟨rn, rx, rc⟩, hr⟩ : ∃ r, readUint l k = r := ⟨_, rfl⟩
  rw [hr] at HU HZ ⊢
  have HN : Hid (rc = 0 → rn < 18446744073709551616) := fun h => by
    subst h
    have h2 := (HK.out (by rw [hr])).2.2
    rw [hr] at h2
    exact (rdUint_inv h2.symm).1
  simp only at HZ
  clear hx hr HK
  go_enter Try.func30, Try.ntmps30
  go_wp2_with fail
  refine HU.out.mono ?_
  rintro e w2 ⟨rfl, rfl⟩
  by_cases hc : rc = 0
  · subst hc
    have hn := HN.out rfl
    have ha := and1 rn hn
    have hu : Hid (unzig rn = if rn % 2 = 0 then ((rn / 2 : Nat) : Int) else -((rn / 2 : Nat) : Int) - 1) := rfl
    have hx1 : bits .xor .i64 (-1) ((rn : Int) / 2) = -1 - (rn : Int) / 2 := by simpa using i64_not (rn / 2) (by omega)
    by_cases hb : rn % 2 = 0
    · have hb1 : ((rn % 2 : Nat) : Int) = 0 := by omega
      rw [hb1] at ha
      go_wp2
      refine bodyPost_ret (v := .tuple #[.int .i64 ((rn : Int) / 2), .int .i64 rx, .int .i64 0]) (by simp [results, Try.results30, go_sem]) rfl ?_
      exact ⟨by rw [hu.out, if_pos hb]; rfl, rfl⟩
    · have hb1 : ((rn % 2 : Nat) : Int) = 1 := by omega
      rw [hb1] at ha
      go_wp2
      refine bodyPost_ret (v := .tuple #[.int .i64 (-1 - (rn : Int) / 2), .int .i64 rx, .int .i64 0]) (by simp [results, Try.results30, go_sem]) rfl ?_
      exact ⟨by rw [hu.out, if_neg hb]; exact congrArg (fun z => Ending.returned (.tuple #[.int .i64 z, .int .i64 rx, .int .i64 0])) (show -1 - (rn : Int) / 2 = -((rn / 2 : Nat) : Int) - 1 by omega), rfl⟩
  · obtain ⟨rfl, rfl⟩ := HZ.out hc
    go_wp2
    refine bodyPost_ret (v := .tuple #[.int .i64 0, .int .i64 0, .int .i64 rc]) (by simp [results, Try.results30, go_sem]) rfl ?_
    exact ⟨rfl, rfl⟩

set_option maxRecDepth 100000 in
set_option maxHeartbeats 1000000 in
theorem refText_any {w : World} (A : Option Addr) (n c : Nat) (l : List UInt8) (k most : Int) (hx : Rds w (.slice A n c) (bytesV l)) (hl : l.length ≤ 9223372036854775000) (hm : most ≤ 9223372036854775807) :
    Calls Try.prog 32 #[.slice A n c, .int .i64 k, .int .i64 most] w fun e w' => e = .returned (.tuple #[.string (readText l k most).1, .int .i64 (readText l k most).2.1, .int .i64 (readText l k most).2.2]) ∧ w' = w := by
  obtain ⟨hn, hnc⟩ := rds_n hx
  subst hn
  obtain ⟨rt, hrt⟩ : ∃ r, readText l k most = r := ⟨_, rfl⟩
  rw [hrt]
  unfold readText at hrt
  by_cases hk : k < 0 ∨ (l.length : Int) < k ∨ most < 0
  · rw [if_pos hk] at hrt
    subst hrt
    clear hx
    by_cases h1 : k < 0
    · go_enter Try.func32, Try.ntmps32
      go_wp2
      refine bodyPost_ret (v := .tuple #[.string ⟨#[]⟩, .int .i64 0, .int .i64 1]) (by simp [results, Try.results32, go_sem]) rfl ?_
      exact ⟨rfl, rfl⟩
    · by_cases h2 : (l.length : Int) < k
      · clear hk
        go_enter Try.func32, Try.ntmps32
        go_wp2
        refine bodyPost_ret (v := .tuple #[.string ⟨#[]⟩, .int .i64 0, .int .i64 1]) (by simp [results, Try.results32, go_sem]) rfl ?_
        exact ⟨rfl, rfl⟩
      · have h3 : most < 0 := by omega
        clear hk
        go_enter Try.func32, Try.ntmps32
        go_wp2
        refine bodyPost_ret (v := .tuple #[.string ⟨#[]⟩, .int .i64 0, .int .i64 1]) (by simp [results, Try.results32, go_sem]) rfl ?_
        exact ⟨rfl, rfl⟩
  · rw [if_neg hk] at hrt
    obtain ⟨k, rfl⟩ := Int.eq_ofNat_of_zero_le (show 0 ≤ k by omega)
    obtain ⟨most, rfl⟩ := Int.eq_ofNat_of_zero_le (show 0 ≤ most by omega)
    rw [Int.toNat_natCast, Int.toNat_natCast] at hrt
    have hk1 : ¬ (k : Int) < 0 := by omega
    have hk2 : ¬ (l.length : Int) < k := by omega
    have hk3 : ¬ (most : Int) < 0 := by omega
    have HU := hide (refUint_in A l.length c l k hx hl (by omega))
    unfold rdText at hrt
    obtain ⟨⟨n, x, rc⟩, hr⟩ : ∃ r, rdUint l k = r := ⟨_, rfl⟩
    rw [hr] at HU hrt
    simp only at hrt
    have HI : Hid (rc = 0 → n < 18446744073709551616 ∧ x ≤ l.length) := fun hc => by subst hc; exact ⟨(rdUint_inv hr).1, (rdUint_inv hr).2.2.1⟩
    have HT := hide hrt
    have hmw : IntKind.u64.wrap (most : Int) = most := by rw [IntKind.wrap_u64]; omega
    have HX := hide hx
    clear hx hk hr hrt
    go_enter Try.func32, Try.ntmps32
    go_wp2_with fail
    refine HU.out.mono ?_
    rintro e w2 ⟨rfl, rfl⟩
    by_cases hc : rc = 0
    · subst hc
      obtain ⟨hn, hx⟩ := HI.out rfl
      have ht := HT.out
      rw [if_pos rfl] at ht
      by_cases hmost : most < n
      · rw [if_pos hmost] at ht
        subst ht
        have hI : (most : Int) < n := by omega
        go_wp2
        refine bodyPost_ret (v := .tuple #[.string ⟨#[]⟩, .int .i64 0, .int .i64 2]) (by simp [results, Try.results32, go_sem]) rfl ?_
        exact ⟨rfl, rfl⟩
      · rw [if_neg hmost] at ht
        have hI : ¬ (most : Int) < n := by omega
        have hsub : IntKind.u64.wrap (IntKind.i64.wrap ((l.length : Int) - x)) = ((l.length - x : Nat) : Int) := by rw [IntKind.wrap_i64, IntKind.wrap_u64]; omega
        by_cases hrest : l.length - x < n
        · rw [if_pos hrest] at ht
          subst ht
          have hd : (l.length : Int) - x < n := by omega
          go_wp2
          refine bodyPost_ret (v := .tuple #[.string ⟨#[]⟩, .int .i64 0, .int .i64 20]) (by simp [results, Try.results32, go_sem]) rfl ?_
          exact ⟨rfl, rfl⟩
        · rw [if_neg hrest] at ht
          have HTT := hide ht
          clear ht
          have hd : ¬ (l.length : Int) - x < n := by omega
          have hnw : IntKind.i64.wrap (n : Int) = n := by rw [IntKind.wrap_i64]; omega
          have hadd : IntKind.i64.wrap ((x : Int) + n) = (x : Int) + n := by rw [IntKind.wrap_i64]; omega
          have hsl : ∀ W, (Instr.slice 22 (.slice A l.length c) (some (.int .i64 (x : Int))) (some (.int .i64 ((x : Int) + n))) none).run Try.prog W = .ok (sliced A x (x + n) c 1) W := fun W => slice_u8 A _ c x (x + n) W _ _ rfl (by simp) (by omega) (by omega)
          have hRd := run_str (rds_slice HX.out (show x ≤ x + n by omega) (show x + n ≤ l.length by omega))
          rw [show x + n - x = n by omega] at hRd
          obtain ⟨A3, n3, c3, h3⟩ : ∃ A3 n3 c3, sliced A x (x + n) c 1 = .slice A3 n3 c3 := ⟨_, _, _, rfl⟩
          rw [h3] at hsl hRd
          clear h3
          go_wp2
          refine bodyPost_ret (v := .tuple #[.string (strOf (List.take n (List.drop x l))), .int .i64 ((x : Int) + n), .int .i64 0]) (by simp [results, Try.results32, go_sem]) rfl ?_
          have ht := HTT.out
          subst ht
          exact ⟨by simp, rfl⟩
    · have ht := HT.out
      rw [if_neg hc] at ht
      subst ht
      go_wp2
      refine bodyPost_ret (v := .tuple #[.string ⟨#[]⟩, .int .i64 0, .int .i64 rc]) (by simp [results, Try.results32, go_sem]) rfl ?_
      exact ⟨rfl, rfl⟩

end Go.Proofs.Ytldhpbmcpmebaab.Cd
