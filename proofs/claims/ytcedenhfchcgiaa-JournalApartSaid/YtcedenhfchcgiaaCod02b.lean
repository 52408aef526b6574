/- The codec's appends, walked. -/
import Derived.Test.YtcedenhfchcgiaaCod02a
import Derived.Laws.MakeOwn
import Derived.Laws.CopyOwn
set_option linter.unusedVariables false
set_option linter.unusedSimpArgs false
namespace Go.Proofs.Ytcedenhfchcgiaa.Cd
open Go.RowKit

theorem make_u8 (n c : Nat) (hn : n ≤ c) (hc : c ≤ 281474976710656) (W : World) : (Instr.makeSlice 23 (.int .i64 n) (.int .i64 c)).run Try.prog W = .ok (.slice (some ⟨W.heap.size, 0, none⟩) n c) (W.alloc (.cells (madeCells #[.int .u8 0] c) 5)) := by
  obtain ⟨i0, hi, hz0, hz1, hz2⟩ := info_parts info_u8
  have h := run_make (P := Try.prog) W 23 5 i0 (.int .u8 0) Try.underlying23 hi hz0 .i64 .i64 n c (by omega) (by omega) (by rw [hz2]; omega) (by omega)
  rw [hz1, Nat.mul_one, Int.toNat_natCast, Int.toNat_natCast] at h
  exact h

theorem splice_take {α : Type} (cur cs : List α) (h : cs.length ≤ cur.length) : (splice cur 0 cs).take cs.length = cs := by
  unfold splice
  simp

set_option maxHeartbeats 1000000 in
theorem made_len (m : Nat) : (madeCells #[.int .u8 0] m).toList.length = m := by rw [Array.length_toList, size_madeCells]
theorem size_u8 : (Try.prog.info? 5).map (·.size) = some 1 := by kernel_rfl
theorem made_heap (w : World) (cs : Array Value) : (w.alloc (.cells cs 5)).heap[w.heap.size]? = some (.cells cs.toList.toArray 5 (0, 0)) := by simpa using heap_alloc_new w (.cells cs 5)
theorem copy_pos {w : World} {A : Option Addr} {c : Nat} {l : List UInt8} {o : Obj} (h : Rds w (.slice A l.length c) (bytesV l)) : 0 < (bytesV l).length → (some ⟨w.heap.size, 0, none⟩ : Option Addr) = some ⟨w.heap.size, 0, none⟩ ∧ ∃ ad, A = some ad ∧ ∀ j v, (bytesV l)[j]? = some v → (w.alloc o).cell? (ad.add j) = some v := by
  intro h0
  obtain ⟨A', c', e, hle, _, hnil, hsp, hc⟩ := h
  injection e with e1 e2 e3
  subst e1 e3
  refine ⟨rfl, ?_⟩
  cases A with
  | none => have := hnil rfl; omega
  | some a => exact ⟨a, rfl, fun j v hj => ((Only.refl (fun _ => False) w).alloc o).cell (hc a rfl j v hj) id⟩
/-- copy of a whole slice into a row that has just been made. -/
theorem wp_grown {w : World} {ops : Array Oper} {rest : List Oper} {o : Oper} {a : Act} {Q : Exit → Act → World → Prop} (hgd : o.guard = none) (d s : Operand)
    (ho : o.op = .call { callee := .builtin .copy, args := #[d, s], argTypes := #[23, 23] })
    {A : Option Addr} {c m : Nat} {l : List UInt8} (hd : a.eval d = .slice (some ⟨w.heap.size, 0, none⟩) l.length m) (hs : a.eval s = .slice A l.length c) (HX : Rds w (.slice A l.length c) (bytesV l)) (hl : l.length ≤ m)
    (h : ∀ w', Hid (w'.heap[w.heap.size]? = some (.cells (splice (madeCells #[.int .u8 0] m).toList 0 (bytesV l)).toArray 5 (0, 0))) → Below w.heap.size w w' → wpList Try.prog ops Q rest (a.put o.dst (goInt (bytesV l).length)) w') :
    wpList Try.prog ops Q (o :: rest) a (w.alloc (.cells (madeCells #[.int .u8 0] m) 5)) :=
  wpList_copy_splice hgd d s 23 23 ho 5 Try.underlying23 size_u8 _ _ _ _ _ _ hd hs w.heap.size 0 (madeCells #[.int .u8 0] m).toList 5 (made_heap w _) (bytesV l) (by rw [bytesV_length]; exact (Nat.min_self _).symm) (copy_pos HX) (by rw [bytesV_length, made_len]; omega) (bytesV_one l) w.heap.size w ((Below.refl _ w).alloc (Nat.le_refl _) _) (Nat.le_refl _) h

set_option maxRecDepth 100000 in
theorem grown_any {w : World} (x : Value) (l : List UInt8) (hx : Rds w x (bytesV l)) (k : Nat) (hk : l.length + k ≤ 140737488355328) :
    Calls Try.prog 28 #[x, .int .i64 k] w (BytesEnd w l) := by
  obtain ⟨A, n, c, rfl⟩ := rds_form hx
  have hn : n = l.length := by obtain ⟨A, c, e, _⟩ := hx; injection e with _ e _; rw [e, bytesV_length]
  subst hn
  obtain ⟨m, hm⟩ : ∃ m, m = l.length + k := ⟨_, rfl⟩
  have hm1 : (l.length : Int) + (k : Int) = m := by omega
  have hmk := make_u8 l.length m (by omega) (by omega)
  have HM := hide hm
  have HX := hide hx
  have hb : Hid (m ≤ 140737488355328) := by show _ ≤ _; omega
  have hl : Hid (l.length ≤ m) := by show _ ≤ _; omega
  have hw : IntKind.i64.wrap ((l.length : Int) + (k : Int)) = m := by rw [IntKind.wrap_i64]; omega
  have hk' : k ≤ 140737488355328 := by omega
  have hl' : l.length ≤ 140737488355328 := by omega
  clear hm hx hk
  go_enter Try.func28, Try.ntmps28
  go_wp2_with (refine wp_grown rfl (.tmp 13) (.tmp 14) rfl rfl rfl HX.out hl.out ?_; intro w2 q1 q2)
  go_ret
  refine ⟨_, rfl, ⟨by rw [bytesV_length]; omega, .inr ⟨w.heap.size, m, _, rfl, Nat.zero_le _, q1.out, hl.out, ?_, ?_, ?_⟩⟩, Only.below q2 _, fun k hk => ?_⟩
  · have := hb.out; simp only [maxLen]; omega
  · rw [List.size_toArray, length_splice _ _ _ (by rw [bytesV_length, made_len]; have := hl.out; omega), made_len]
    omega
  · rw [Nat.mul_one]
    show List.take l.length (splice _ 0 (bytesV l)) = bytesV l
    rw [← bytesV_length l]
    exact splice_take _ _ (by rw [bytesV_length, made_len]; have := hl.out; omega)
  · cases hk
    exact Nat.le_refl _


/-- zigzag. -/
def zig (m : Int) : Nat := if 0 ≤ m then (2 * m).toNat else (-2 * m - 1).toNat
theorem zig_lt {m : Int} (h0 : -9223372036854775808 ≤ m) (h1 : m ≤ 9223372036854775807) : zig m < 18446744073709551616 := by unfold zig; split <;> omega
theorem xor_ones (a : Nat) (h : a < 18446744073709551616) : a ^^^ 18446744073709551615 = 18446744073709551615 - a := by
  have h1 := congrArg BitVec.toNat (BitVec.xor_allOnes (x := BitVec.ofNat 64 a))
  rw [BitVec.toNat_xor, BitVec.toNat_not, BitVec.toNat_allOnes, BitVec.toNat_ofNat, Nat.mod_eq_of_lt (by omega)] at h1
  exact h1
theorem zig_bits (m x y : Int) (h0 : -9223372036854775808 ≤ m) (h1 : m ≤ 9223372036854775807) (hx : x = (2 * m) % 18446744073709551616) (hy : y = (m / 9223372036854775808) % 18446744073709551616) : bits .xor .u64 x y = ((zig m : Nat) : Int) := by
  obtain ⟨a, rfl⟩ := Int.eq_ofNat_of_zero_le (show 0 ≤ x by omega)
  unfold zig
  by_cases hm : 0 ≤ m
  · have : y = ((0 : Nat) : Int) := by omega
    rw [this, u64_xor_nat a 0 (by omega) (by omega), if_pos hm, Nat.xor_zero]
    omega
  · have : y = ((18446744073709551615 : Nat) : Int) := by omega
    rw [this, u64_xor_nat a 18446744073709551615 (by omega) (by omega), if_neg hm, xor_ones a (by omega)]
    omega
theorem src_str (w : World) (s : ByteArray) : Src Try.prog 1 9 (.string s) s.size (bytesV s.data.toList) w := Src.ofString w Try.underlying9 s

theorem appendText_any {w : World} (x : Value) (l : List UInt8) (hx : Rds w x (bytesV l)) (hl : l.length ≤ 4000) (s : ByteArray) (hs : s.size ≤ 140737488351232) :
    Calls Try.prog 13 #[x, .string s] w (BytesEnd w (l ++ leb s.size ++ s.data.toList)) := by
  have HG := hide (grown_any x l hx (10 + s.size) (by omega))
  have HU := hide (fun (w2 : World) (v : Value) (F : Fresh w w2 v l) => uintTo_any F s.size (by omega) (by omega))
  have HL := hide (leb_len10 (show s.size < 18446744073709551616 by omega))
  have HL2 : Hid (l.length ≤ 4000 ∧ s.size ≤ 140737488351232) := ⟨hl, hs⟩
  have hsl : Hid (s.data.toList.length = s.size) := by show _ = _; rw [Array.length_toList]; rfl
  have hc : ((10 + s.size : Nat) : Int) = 10 + (s.size : Int) := by omega
  rw [hc] at HG
  obtain ⟨A, k, c, rfl⟩ := rds_form hx
  clear hx hl hc
  go_enter Try.func13, Try.ntmps13
  go_wp2_with fail
  refine HG.out.mono ?_
  rintro e w1 ⟨v, rfl, F⟩
  obtain ⟨A1, n1, c1, rfl⟩ := own_form' F.own
  have F1 := hide F
  clear F
  go_wp2_with fail
  refine (HU.out _ _ F1.out).mono ?_
  rintro e w2 ⟨v, rfl, F, -⟩
  obtain ⟨A2, n2, c2, rfl⟩ := own_form' F.own
  have F2 := hide F
  clear F
  go_wp2_with (at_builtin; refine wp_app rfl _ _ 9 rfl (.slice A2 n2 c2) _ (l ++ leb s.size) rfl F2.out.own _ rfl s.size s.data.toList (src_str _ s) (by have := HL.out; have := HL2.out; have := hsl.out; rw [List.length_append]; unfold lim47; omega) ?_; intro v3 w3 g1 g2 g3; have F3 := hide (F2.out.push g1 g2 g3); clear g1 g2 g3)
  go_ret
  exact ⟨_, rfl, F3.out⟩

end Go.Proofs.Ytcedenhfchcgiaa.Cd
