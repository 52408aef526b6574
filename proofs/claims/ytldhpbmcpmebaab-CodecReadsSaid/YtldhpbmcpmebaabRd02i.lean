/- The reference's Row (reading), walked. -/
import Derived.Test.YtldhpbmcpmebaabRd02h
set_option linter.unusedVariables false
set_option linter.unusedSimpArgs false
namespace Go.Proofs.Ytldhpbmcpmebaab.Cd
open Go.RowKit

set_option maxRecDepth 100000 in
set_option maxHeartbeats 4000000 in
theorem refRow_any {w : World} (A : Option Addr) (n c : Nat) (l : List UInt8) (k : Int) (hx : Rds w (.slice A n c) (bytesV l)) (hl : l.length ≤ 9223372036854775000) :
    Calls Try.prog 38 #[.slice A n c, .int .i64 k] w (RowEnd w (readRow l k)) := by
  have HU := hide (refUint_any A n c l k hx hl)
  have HX := hide (fun (W : World) (ho : Only (fun _ => False) w W) => hx.only ho fun _ _ => id)
  obtain ⟨rt, hrt⟩ : ∃ r, readRow l k = r := ⟨_, rfl⟩
  rw [hrt]
  have hz := readUint_zero l k
  have hok := readUint_ok l k
  -- what the row is, said by what the number is
  have HT : Hid (rt = if (readUint l k).2.2 = 0 then (if 12 < (readUint l k).1 then ([], 0, 2) else rdCells l (readUint l k).1 (readUint l k).2.1) else ([], 0, (readUint l k).2.2)) := by
    show _ = _
    rw [← hrt]
    unfold readRow readUint
    by_cases hk : k < 0 ∨ (l.length : Int) < k
    · rw [if_pos hk, if_pos hk, if_neg (by decide)]
    · rw [if_neg hk, if_neg hk]; rfl
  obtain ⟨⟨rn, rx, rc⟩, hr⟩ : ∃ r, readUint l k = r := ⟨_, rfl⟩
  rw [hr] at HU HT hz hok
  have HI : Hid (rc = 0 → rx ≤ l.length) := fun h => by
    subst h
    obtain ⟨h1, h2, h3⟩ := hok rfl
    exact (rdUint_inv h3.symm).2.2.1
  simp only at hz
  have HZ := hide hz
  have HT2 : Hid (rt = if rc = 0 then (if 12 < rn then ([], 0, 2) else rdCells l rn rx) else ([], 0, rc)) := HT.out
  clear hx hrt hz hok hr HT
  go_enter Try.func38, Try.ntmps38
  go_wp2_with fail
  refine HU.out.mono ?_
  rintro e w2 ⟨rfl, rfl⟩
  by_cases hrc : rc = 0
  · subst hrc
    have ht := HT2.out
    rw [if_pos rfl] at ht
    have hrx := HI.out rfl
    by_cases h12 : 12 < rn
    · rw [if_pos h12] at ht
      subst ht
      have h12I : (12 : Int) < rn := by omega
      go_wp2
      refine bodyPost_ret (v := .tuple #[.slice none 0 0, .int .i64 0, .int .i64 2]) (by simp [results, Try.results38, go_sem]) rfl ?_
      exact ⟨_, rfl, FreshRow.nil _ _⟩
    · rw [if_neg h12] at ht
      have h12I : ¬ (12 : Int) < rn := by omega
      have hrnw : IntKind.i64.wrap (rn : Int) = rn := by rw [IntKind.wrap_i64]; omega
      have ht2 : Hid (comb [] (rdCells l rn rx) = rt) := by show _ = _; rw [ht]; exact comb_start _ (rdCells_zero l rn rx)
      clear ht HT2 HI HZ
      go_wp2
      go_loopw [8, 10, 11] (fun nx v i wr => ∃ (j at_ : Nat) (vs : List VD), i = .int .i64 j ∧ j ≤ rn ∧ nx = .int .i64 at_ ∧ at_ ≤ l.length ∧ vs.length = j ∧ Hid (FreshRow (fun _ => False) w2 wr v vs) ∧ Hid (comb vs (rdCells l (rn - j) at_) = rt)) (fun _ _ i _ => rn - (intOf i).toNat)
      case atStart => exact ⟨0, rx, [], rfl, Nat.zero_le _, rfl, hrx, rfl, FreshRow.nil _ _, ht2⟩
      case round =>
        obtain ⟨j, at_, vs, rfl, hj, rfl, hat, hvl, HF, HT⟩ := hrel
        obtain ⟨A1, n1, c1, rfl⟩ := own_form' HF.out.own
        have hvlH := hide hvl
        clear hvl
        by_cases hlt : j < rn
        · obtain ⟨f, hf⟩ : ∃ f, rn - j = f + 1 := ⟨rn - j - 1, by omega⟩
          have hltI : (j : Int) < rn := by omega
          have HVal := hide (fun (W : World) (ho : Only (fun _ => False) w2 W) => refValue_in (w := W) A n c l at_ (HX.out W ho) hl hat)
          obtain ⟨⟨⟨vk, vn, vst⟩, vx, vc⟩, hv⟩ : ∃ r, rdVal l at_ = r := ⟨_, rfl⟩
          rw [hv] at HVal
          have hvH := hide hv
          have HP := hide (heap_alloc_new wr (.cells #[.int .i64 0, .int .i64 0, .string ⟨#[]⟩] 24))
          clear hv
          by_cases hvc : vc = 0
          · subst hvc
            have hvx : vx ≤ l.length := (rdVal_inv hvH.out).2.2.2.1
            have hcomb := comb_ok (vs := vs) (f := f) hvH.out
            rw [← hf, HT.out] at hcomb
            have HC := hide hcomb
            clear hcomb
            go_wp2_with fail
            refine (HVal.out _ (HF.out.only.alloc _)).mono ?_
            rintro e w4 ⟨he, hO⟩
            simp only [aggV] at he
            subst he
            obtain ⟨x0, x1, x2, y0, y1, y2⟩ := three_facts (hO.heap HP.out id)
            have F4 := hide ((HF.out.grow ((Only.refl _ wr).alloc (.cells #[.int .i64 0, .int .i64 0, .string ⟨#[]⟩] 24)) (fun _ h => h.elim)).grow hO (fun _ h => h.elim))
            have hbx : Hid (wr.heap.size < w4.heap.size) := by have := hO.size; simp at this; exact this
            clear hO
            have hO5 : Only (fun y => y = wr.heap.size) w4 (((w4.setCell ⟨wr.heap.size, 0, none⟩ (.int .i64 vk)).setCell ⟨wr.heap.size, 1, none⟩ (.int .i64 vn)).setCell ⟨wr.heap.size, 2, none⟩ (.string vst)) := only_set3 _ _ _ _ _
            have F5 : Hid (FreshRow (fun _ => False) w2 (((w4.setCell ⟨wr.heap.size, 0, none⟩ (.int .i64 vk)).setCell ⟨wr.heap.size, 1, none⟩ (.int .i64 vn)).setCell ⟨wr.heap.size, 2, none⟩ (.string vst)) (.slice A1 n1 c1) vs) := ⟨hO5.owns F4.out.own (fun y hy e => by have := HF.out.lt hy; omega), F4.out.only.trans hO5 (fun y hy e => by have := HF.out.only.size; omega), F4.out.new⟩
            have F6 := hide (F5.out.grow ((Only.refl (fun _ => False) _).alloc (.cells #[.int .i64 vk, .int .i64 vn, .string vst] 24)) (fun _ h => h.elim))
            clear hO5
            go_wp2_with (at_builtin; refine wp_row rfl _ _ rfl (.slice A1 n1 c1) vs.length vs rfl F6.out.own _ rfl ⟨vk, vn, vst⟩ (src_val _ _ (by first | rfl | simp) _) (by have := hvlH.out; omega) ?_; intro v7 w7 g1 g2 g3; have F7 := hide (F6.out.push g1 g2 g3); clear g1 g2 g3)
            go_roundw
            case rel => exact ⟨j + 1, vx, vs ++ [⟨vk, vn, vst⟩], by go_num, by omega, rfl, hvx, by rw [List.length_append, hvlH.out]; rfl, F7, by show _ = _; rw [show rn - (j + 1) = f by omega]; exact HC.out.symm⟩
            case measure => simp [intOf]; omega
          · have hcomb := comb_bad (l := l) (vs := vs) (f := f) (at_ := at_) (by rw [hvH.out]; exact hvc)
            rw [← hf, HT.out, hvH.out] at hcomb
            simp only at hcomb
            subst hcomb
            go_wp2_with fail
            refine (HVal.out _ (HF.out.only.alloc _)).mono ?_
            rintro e w4 ⟨he, hO⟩
            simp only [aggV] at he
            subst he
            obtain ⟨x0, x1, x2, y0, y1, y2⟩ := three_facts (hO.heap HP.out id)
            have O4 := hide ((HF.out.only.alloc (.cells #[.int .i64 0, .int .i64 0, .string ⟨#[]⟩] 24)).trans' hO)
            clear hO
            go_wp2
            refine bodyPost_ret (v := .tuple #[.slice none 0 0, .int .i64 0, .int .i64 vc]) (by simp [results, Try.results38, go_sem]) rfl ?_
            exact ⟨_, rfl, (FreshRow.nil (fun _ => False) w2).grow (O4.out.trans (only_set3 _ _ _ _ _) (fun y hy e => by have := HF.out.only.size; omega)) (fun _ h => h.elim)⟩
        · obtain rfl : j = rn := by omega
          have ht := HT.out
          rw [Nat.sub_self, comb_end] at ht
          subst ht
          go_wp2
          refine bodyPost_ret (v := .tuple #[.slice A1 n1 c1, .int .i64 at_, .int .i64 0]) (by simp [results, Try.results38, go_sem]) rfl ?_
          exact ⟨_, rfl, HF.out⟩
  · have ht := HT2.out
    rw [if_neg hrc] at ht
    subst ht
    go_wp2
    refine bodyPost_ret (v := .tuple #[.slice none 0 0, .int .i64 0, .int .i64 rc]) (by simp [results, Try.results38, go_sem]) rfl ?_
    exact ⟨_, rfl, FreshRow.nil _ _⟩

end Go.Proofs.Ytldhpbmcpmebaab.Cd
