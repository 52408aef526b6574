/- bytes.Equal; lists of files. -/
import Derived.Test.YtldhpbmcpmebaaaDiskNew
import Derived.Laws.IdiomStrings
import Derived.Lib.BufferRead
set_option linter.unusedVariables false
set_option linter.unusedSimpArgs false
namespace Go.Proofs.Ytldhpbmcpmebaaa
open Go.RowKit

theorem toList_loop (bs : ByteArray) (n : Nat) : ∀ (i : Nat) (r : List UInt8), bs.size - i = n → ByteArray.toList.loop bs i r = r.reverse ++ bs.data.toList.drop i := by
  induction n with
  | zero =>
    intro i r h
    unfold ByteArray.toList.loop
    rw [if_neg (by omega)]
    rw [List.drop_eq_nil_of_le (by simpa using by show bs.data.size ≤ i; have : bs.size = bs.data.size := rfl; omega)]
    simp
  | succ n ih =>
    intro i r h
    unfold ByteArray.toList.loop
    rw [if_pos (by omega), ih (i + 1) _ (by omega)]
    have hi : i < bs.data.toList.length := by have : bs.size = bs.data.size := rfl; simp; omega
    rw [List.drop_eq_getElem_cons hi]
    have hg : bs.get! i = bs.data.toList[i] := by
      unfold ByteArray.get!
      simp at hi ⊢
      rw [getElem!_pos bs.data i (by simpa using hi)]
    rw [hg]
    simp
theorem bytes_toList (bs : ByteArray) : bs.toList = bs.data.toList := by
  unfold ByteArray.toList
  rw [toList_loop bs bs.size 0 [] (by omega)]
  simp

def strOf (l : List UInt8) : ByteArray := ⟨l.toArray⟩
theorem run_str {w : World} {v : Value} {l : List UInt8} (h : Rds w v (bytesV l)) : (convert 33 9 v).run Try.prog w = .ok (.string (strOf l)) w := by
  obtain ⟨A, cap, rfl, hle, _, hnil, _, hc⟩ := h
  rw [bytesV_length] at hle ⊢
  cases A with
  | none =>
    have h0 := hnil rfl
    subst h0
    have : l = [] := List.eq_nil_of_length_eq_zero (by omega)
    subst this
    exact Lib.run_convert_nil_bytes w _ _ 5 0 Try.underlying33 Try.underlying5 Try.underlying9
  | some a => exact run_convert_bytes_back w _ _ 5 a cap l Try.underlying33 Try.underlying5 Try.underlying9 fun j hj => hc a rfl j _ (bytesV_get l j hj)
theorem strOf_toList (l : List UInt8) : (strOf l).toList = l := by rw [bytes_toList]; simp [strOf]
theorem strOf_inj {l m : List UInt8} : strOf l = strOf m ↔ l = m := by
  unfold strOf
  constructor
  · intro h
    injection h with h
    simpa using h
  · rintro rfl; rfl

theorem bytesEqual_any {w : World} {v1 v2 : Value} {l1 l2 : List UInt8} (h1 : Rds w v1 (bytesV l1)) (h2 : Rds w v2 (bytesV l2)) :
    Calls Try.prog 20 #[v1, v2] w fun e w' => e = .returned (.bool (decide (l1 = l2))) ∧ w = w' := by
  have c1 := run_str h1
  have c2 := run_str h2
  obtain ⟨A, n, c, rfl⟩ : ∃ A n c, v1 = .slice A n c := by obtain ⟨A, c, e, _⟩ := h1; exact ⟨A, _, c, e⟩
  obtain ⟨A', n', c', rfl⟩ : ∃ A n c, v2 = .slice A n c := by obtain ⟨A, c, e, _⟩ := h2; exact ⟨A, _, c, e⟩
  clear h1 h2
  go_enter Try.func20, Try.ntmps20
  go_wp2
  go_ret
  refine ⟨?_, rfl⟩
  show Ending.returned (.bool ((strOf l1).toList == (strOf l2).toList)) = _
  have e : (l1 == l2) = decide (l1 = l2) := by rw [Bool.eq_iff_iff]; simp
  rw [strOf_toList, strOf_toList, e]


theorem quiet_at {P : Program} {f : FuncId} {args : Array Value} {W : World} {n : Nat} {v : Value} (h : Calls P f args (W.drewN n) fun e w' => e = .returned v ∧ W.drewN n = w') : Calls P f args (W.drewN n) fun e w' => e = .returned v ∧ ∃ m, w' = W.drewN m :=
  h.mono fun _ _ ⟨he, hw⟩ => ⟨he, n, hw.symm⟩

/-- A slice of byte slices reads as the lists F. -/
def RdF (w : World) (v : Value) (F : List (List UInt8)) : Prop :=
  ∃ vs : List Value, Rds w v vs ∧ vs.length = F.length ∧ ∀ i, i < F.length → Rds w (vs.getD i undef) (bytesV (F.getD i []))

theorem Rds.cellAt {w : World} {v : Value} {xs : List Value} (h : Rds w v xs) : ∃ A c, v = .slice A xs.length c ∧ ∀ j, j < xs.length → ∃ b o, A = some ⟨b, o, none⟩ ∧ v.ownBlock = some b ∧ w.cell? ⟨b, o + j, none⟩ = some (xs.getD j undef) := by
  obtain ⟨A, cap, rfl, hle, _, hnil, hsp, hc⟩ := h
  refine ⟨A, cap, rfl, fun j hj => ?_⟩
  cases A with
  | none => have := hnil rfl; omega
  | some a =>
    have h1 := hsp a rfl (by omega)
    have h2 := hc a rfl j xs[j] (List.getElem?_eq_getElem hj)
    rw [addr_eta a h1] at h2
    obtain ⟨ab, ao, s⟩ := a
    simp only at h1
    subst h1
    refine ⟨ab, ao, rfl, rfl, ?_⟩
    rw [h2, List.getD_eq_getElem?_getD, List.getElem?_eq_getElem hj]
    rfl
theorem Rds.form {w : World} {v : Value} {xs : List Value} (h : Rds w v xs) : ∃ A n c, v = .slice A n c := by
  obtain ⟨A, cap, rfl, _⟩ := h
  exact ⟨A, _, cap, rfl⟩
theorem Rds.drewN {w : World} {v : Value} {xs : List Value} (h : Rds w v xs) (n : Nat) : Rds (w.drewN n) v xs := h.only ((Only.refl (fun _ => False) w).drewN n) (fun _ _ => id)

theorem same_any {w : World} {v1 v2 : Value} {F1 F2 : List (List UInt8)} (h1 : RdF w v1 F1) (h2 : RdF w v2 F2) :
    Calls Try.prog 35 #[v1, v2] w fun e w' => e = .returned (.bool (decide (F1 = F2))) ∧ ∃ q, w' = w.drewN q := by
  obtain ⟨vs1, r1, l1, e1⟩ := h1
  obtain ⟨vs2, r2, l2, e2⟩ := h2
  have hm : F1.length ≤ 9223372036854775807 := by
    obtain ⟨A, c, e, h1, h2, _⟩ := r1
    simp only [maxLen] at h2
    omega
  obtain ⟨A1, c1, rfl, k1⟩ := r1.cellAt
  obtain ⟨A2, c2, rfl, k2⟩ := r2.cellAt
  rw [l1] at k1 ⊢
  rw [l2] at k2 ⊢
  have E1 := hide e1
  have E2 := hide e2
  have K1 := hide k1
  have K2 := hide k2
  clear r1 r2 e1 e2 k1 k2 l1 l2
  by_cases hl : F1.length = F2.length
  · have hl' : ((F1.length : Int) != (F2.length : Int)) = false := by rw [hl]; simp
    have HL := hide hl
    clear hl
    go_enter Try.func35, Try.ntmps35
    go_wp2
    clear hl'
    go_loopw [13] (fun i wr => ∃ k : Nat, k ≤ F1.length ∧ i = .int .i64 k ∧ F1.take k = F2.take k ∧ ∃ q, wr = w.drewN q) (fun i _ => F1.length - (intOf i).toNat)
    case atStart => exact ⟨0, by omega, rfl, rfl, 0, by rw [World.drewN_zero]⟩
    case round =>
      obtain ⟨k, hk, rfl, ht, hq⟩ := hrel
      have HT := hide ht
      have HQ := hide hq
      have HR := hide (show ∀ v xs, Rds w v xs → Rds wr v xs from fun v xs h => by obtain ⟨q, rfl⟩ := hq; exact h.drewN q)
      have HC := hide (show ∀ a, wr.cell? a = w.cell? a from fun a => by obtain ⟨q, rfl⟩ := hq; rfl)
      clear ht hq
      by_cases hlt : k < F1.length
      · have hlt2 : k < F2.length := by have := HL.out; omega
        obtain ⟨b1, o1, rfl, -, hc1⟩ := K1.out k hlt
        obtain ⟨b2, o2, rfl, -, hc2⟩ := K2.out k hlt2
        have r1 := HR.out _ _ (E1.out k hlt)
        have r2 := HR.out _ _ (E2.out k hlt2)
        obtain ⟨B1, n1, d1, f1⟩ := r1.form
        obtain ⟨B2, n2, d2, f2⟩ := r2.form
        rw [← HC.out] at hc1 hc2
        rw [f1] at hc1 r1
        rw [f2] at hc2 r2
        have HE := hide (fun n => bytesEqual_any (r1.drewN n) (r2.drewN n))
        clear r1 r2 f1 f2
        by_cases heq : F1.getD k [] = F2.getD k []
        · have hd : decide (F1.getD k [] = F2.getD k []) = true := by simpa using heq
          have hn : F1.take (k + 1) = F2.take (k + 1) := by
            rw [List.take_succ_eq_append_getElem hlt, List.take_succ_eq_append_getElem hlt2, HT.out]
            rw [List.getD_eq_getElem?_getD, List.getElem?_eq_getElem hlt, List.getD_eq_getElem?_getD, List.getElem?_eq_getElem hlt2] at heq
            simp only [Option.getD_some] at heq
            rw [heq]
          rw [hd] at HE
          have HN := hide hn
          clear heq hd hn
          go_wp2
          go_quiet ((go_at_call 20; exact quiet_at (HE.out _)))
          go_wp2
          go_roundw
          case rel => exact ⟨k + 1, by omega, by go_num, HN, by obtain ⟨q, rfl⟩ := HQ.out; exact ⟨q + nq, by rw [World.drewN_drewN]⟩⟩
          case measure => simp [intOf]; omega
        · have hd : decide (F1.getD k [] = F2.getD k []) = false := by simpa using heq
          have hn : F1 ≠ F2 := fun e => heq (by rw [e])
          rw [hd] at HE
          have HN := hide (show decide (F1 = F2) = false from by simpa using hn)
          clear heq hd hn
          go_wp2
          go_quiet ((go_at_call 20; exact quiet_at (HE.out _)))
          go_wp2
          go_ret
          exact ⟨by rw [HN.out]; rfl, by obtain ⟨q, rfl⟩ := HQ.out; exact ⟨q + nq, by rw [World.drewN_drewN]⟩⟩
      · obtain rfl : k = F1.length := by omega
        have HN := hide (show decide (F1 = F2) = true from by
          have := HT.out
          rw [List.take_length, HL.out, List.take_length] at this
          simpa using this)
        go_wp2
        go_ret
        exact ⟨by rw [HN.out]; rfl, HQ.out⟩
  · have HN := hide (show decide (F1 = F2) = false from by
      have : F1 ≠ F2 := fun e => hl (by rw [e])
      simpa using this)
    have hl' : ((F1.length : Int) != (F2.length : Int)) = true := by simp; omega
    clear hl
    go_enter Try.func35, Try.ntmps35
    go_wp2
    go_ret
    exact ⟨by rw [HN.out]; rfl, 0, by rw [World.drewN_zero]⟩

end Go.Proofs.Ytldhpbmcpmebaaa
