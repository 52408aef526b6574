/- begun of layer 2, walked. -/
import Derived.Test.YtldhpbmcpmebaabCod02g
set_option linter.unusedVariables false
set_option linter.unusedSimpArgs false
namespace Go.Proofs.Ytldhpbmcpmebaab.Cd
open Go.RowKit

def bv1 : VD := ⟨3, 1, ⟨#[]⟩⟩
def bv2 : VD := ⟨5, 0, ⟨#[97]⟩⟩
theorem b_code : rowCode [bv1, bv2] = 0 := by
  unfold rowCode
  rw [if_neg (by decide)]
  have h1 : bv1.valid = true := by
    simp [VD.valid, bv1, bytes_toList]
  have h2 : bv2.valid = true := by
    simp [VD.valid, bv2]
    decide
  simp [h1, h2]
theorem b_enc : encRow [bv1, bv2] = [2, 3, 1, 5, 1, 97] := by
  unfold encRow enc bv1 bv2
  simp
  have h1 : leb 2 = [2] := leb_small (by omega)
  have h2 : leb (ByteArray.size ⟨#[97]⟩) = [1] := leb_small (n := 1) (by omega)
  rw [h1, h2]
  rfl
theorem b_300 : leb 300 = [172, 2] := by rw [leb_big (by omega), leb_small (by omega)]; rfl
theorem b_m1 : leb (zig (-1)) = [1] := by
  have : zig (-1) = 1 := by decide
  rw [this, leb_small (by omega)]
  rfl
theorem b_rd : rdUint [128, 0] 0 = (0, 0, 21) := by decide

theorem rds_lit (w : World) (l : List UInt8) (hl : l.length ≤ 1000) : Rds (w.alloc (.cells (bytesV l).toArray 5)) (.slice (some ⟨w.heap.size, 0, none⟩) l.length l.length) (bytesV l) := by
  refine ⟨_, l.length, by rw [bytesV_length], by rw [bytesV_length]; exact Nat.le_refl _, by simp only [maxLen]; omega, (fun h => by cases h), (fun a h _ => by cases h; rfl), fun a h j u hj => ?_⟩
  cases h
  rw [addr_eta _ rfl]
  simp only [Nat.zero_add]
  rw [cell_of_heap (heap_alloc_new w _)]
  simpa using hj

theorem b_row (w : World) : RdRow (w.alloc (.cells #[.int .i64 3, .int .i64 1, .string ⟨#[]⟩, .int .i64 5, .int .i64 0, .string ⟨#[97]⟩] 24)) (some ⟨w.heap.size, 0, none⟩) 2 [bv1, bv2] (fun k => k = w.heap.size) := by
  refine ⟨rfl, fun i hi => ⟨w.heap.size, 0, rfl, rfl, ?_⟩, fun i hi => ?_⟩
  · have : i = 0 ∨ i = 1 := by simp at hi; omega
    rcases this with rfl | rfl
    · refine ⟨?_, ?_, ?_⟩ <;> rw [cell_of_heap (heap_alloc_new w _)] <;> rfl
    · refine ⟨?_, ?_, ?_⟩ <;> rw [cell_of_heap (heap_alloc_new w _)] <;> rfl
  · have : i = 0 ∨ i = 1 := by simp at hi; omega
    rcases this with rfl | rfl
    · exact ⟨by decide, by decide⟩
    · exact ⟨by decide, by decide⟩

set_option maxRecDepth 100000 in
set_option maxHeartbeats 1000000 in
theorem begun02_any (w : World) : Calls Try.prog 26 #[] w fun e w' => e = .returned (.bool true) ∧ Only (fun _ => False) w w' := by
  have HR := hide (appendRow_any (w := w.alloc (.cells #[.int .i64 3, .int .i64 1, .string ⟨#[]⟩, .int .i64 5, .int .i64 0, .string ⟨#[97]⟩] 24)) (.slice none 0 0) [] (rds_nil _) (by simp) _ 2 2 [bv1, bv2] (b_row w) (fun k hk => by subst hk; simp) (by omega))
  rw [b_code, if_pos rfl, b_enc, List.nil_append] at HR
  have HU := hide (fun w2 => Uint_in (w := w2.alloc (.cells (bytesV [128, 0]).toArray 5)) _ [128, 0] 0 (rds_lit w2 [128, 0] (by simp)) (fun b hb => by cases hb; simp) (by simp) (by simp))
  rw [b_rd] at HU
  go_enter Try.func26, Try.ntmps26
  go_wp2_with fail
  refine HR.out.mono ?_
  rintro e w1 ⟨v, rfl, F⟩
  obtain ⟨A1, n1, c1, rfl⟩ := own_form' F.own
  have F1 := hide F
  have O1 : Hid (Only (fun _ => False) w w1) := ((Only.refl _ w).alloc _).trans' F.only
  clear F
  go_wp2_with fail
  refine (HU.out w1).mono ?_
  rintro e w2 ⟨rfl, hO⟩
  have O2 : Hid (Only (fun _ => False) w1 w2) := ((Only.refl _ w1).alloc _).trans' hO
  clear hO
  go_wp2_with fail
  refine (same_any ((F1.out.rds.only O2.out fun _ _ => id).only ((Only.refl (fun _ => False) w2).alloc _) fun _ _ => id) (rds_lit w2 [2, 3, 1, 5, 1, 97] (by simp))).mono ?_
  rintro e w3 ⟨rfl, rfl⟩
  rw [show decide (([2, 3, 1, 5, 1, 97] : List UInt8) = [2, 3, 1, 5, 1, 97]) = true from decide_eq_true rfl]
  go_wp2_with fail
  have HA := hide (appendUint_any (w := w2.alloc (.cells (bytesV [2, 3, 1, 5, 1, 97]).toArray 5)) (.slice none 0 0) [] (rds_nil _) (by simp) 300 (by omega))
  rw [b_300, List.nil_append] at HA
  refine HA.out.mono ?_
  rintro e w4 ⟨v, rfl, F⟩
  obtain ⟨A2, n2, c2, rfl⟩ := own_form' F.own
  have F2 := hide F
  have O4 : Hid (Only (fun _ => False) w2 w4) := ((Only.refl _ w2).alloc _).trans' F.only
  clear F HA
  go_wp2_with fail
  refine (same_any (F2.out.rds.only ((Only.refl (fun _ => False) w4).alloc _) fun _ _ => id) (rds_lit w4 [172, 2] (by simp))).mono ?_
  rintro e w5 ⟨rfl, rfl⟩
  rw [show decide (([172, 2] : List UInt8) = [172, 2]) = true from decide_eq_true rfl]
  go_wp2_with fail
  have HA := hide (appendInt_any (w := w4.alloc (.cells (bytesV [172, 2]).toArray 5)) (.slice none 0 0) [] (rds_nil _) (by simp) (-1) (by omega) (by omega))
  rw [b_m1, List.nil_append] at HA
  refine HA.out.mono ?_
  rintro e w6 ⟨v, rfl, F⟩
  obtain ⟨A3, n3, c3, rfl⟩ := own_form' F.own
  have F3 := hide F
  have O6 : Hid (Only (fun _ => False) w4 w6) := ((Only.refl _ w4).alloc _).trans' F.only
  clear F HA
  go_wp2_with fail
  refine (same_any (F3.out.rds.only ((Only.refl (fun _ => False) w6).alloc _) fun _ _ => id) (rds_lit w6 [1] (by simp))).mono ?_
  rintro e w7 ⟨rfl, rfl⟩
  rw [show decide (([1] : List UInt8) = [1]) = true from decide_eq_true rfl]
  go_wp2
  go_ret
  exact ⟨rfl, (((O1.out.trans' O2.out).trans' O4.out).trans' O6.out).alloc _⟩

end Go.Proofs.Ytldhpbmcpmebaab.Cd
