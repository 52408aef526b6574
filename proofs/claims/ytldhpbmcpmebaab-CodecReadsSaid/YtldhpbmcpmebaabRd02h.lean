/- The reference's Value and Row (reading), walked. -/
import Derived.Test.YtldhpbmcpmebaabRd02g
set_option linter.unusedVariables false
set_option linter.unusedSimpArgs false
namespace Go.Proofs.Ytldhpbmcpmebaab.Cd
open Go.RowKit

/-- How the reference's Value ends. -/
def ValEnd (w : World) (r : VD × Nat × Int) (e : Ending) (w' : World) : Prop := e = .returned (.tuple #[aggV r.1, .int .i64 r.2.1, .int .i64 r.2.2]) ∧ Only (fun _ => False) w w'

theorem refInt_in {w : World} (A : Option Addr) (n c : Nat) (l : List UInt8) (k : Nat) (hx : Rds w (.slice A n c) (bytesV l)) (hl : l.length ≤ 9223372036854775000) (hk : k ≤ l.length) :
    Calls Try.prog 30 #[.slice A n c, .int .i64 k] w fun e w' => e = .returned (.tuple #[.int .i64 (unzig (rdUint l k).1), .int .i64 (rdUint l k).2.1, .int .i64 (rdUint l k).2.2]) ∧ w' = w := by
  have h := refInt_any A n c l k hx hl
  unfold readUint at h
  rw [if_neg (by omega), Int.toNat_natCast] at h
  exact h
theorem refText_in {w : World} (A : Option Addr) (n c : Nat) (l : List UInt8) (k most : Nat) (hx : Rds w (.slice A n c) (bytesV l)) (hl : l.length ≤ 9223372036854775000) (hk : k ≤ l.length) (hm : most ≤ 9223372036854775807) :
    Calls Try.prog 32 #[.slice A n c, .int .i64 k, .int .i64 most] w fun e w' => e = .returned (.tuple #[.string (rdText l k most).1, .int .i64 (rdText l k most).2.1, .int .i64 (rdText l k most).2.2]) ∧ w' = w := by
  have h := refText_any A n c l k most hx hl (by omega)
  unfold readText at h
  rw [if_neg (by omega), Int.toNat_natCast, Int.toNat_natCast] at h
  exact h
theorem rdUint_zero (l : List UInt8) (k : Nat) (h : (rdUint l k).2.2 ≠ 0) : (rdUint l k).1 = 0 ∧ (rdUint l k).2.1 = 0 := rdU_zero _ _ _ _ _ h

set_option maxRecDepth 100000 in
set_option maxHeartbeats 2000000 in
theorem refValue_bad {w : World} (A : Option Addr) (n c : Nat) (l : List UInt8) (k : Int) (hx : Rds w (.slice A n c) (bytesV l)) (hk : k < 0 ∨ (l.length : Int) < k) :
    Calls Try.prog 37 #[.slice A n c, .int .i64 k] w (ValEnd w (vd0, 0, 1)) := by
  obtain ⟨hn, _⟩ := rds_n hx
  subst hn
  clear hx
  by_cases hk0 : k < 0
  · go_enter Try.func37, Try.ntmps37
    go_wp2
    refine bodyPost_ret (v := .tuple #[.agg #[.int .i64 0, .int .i64 0, .string ⟨#[]⟩], .int .i64 0, .int .i64 1]) (by simp [results, Try.results37, go_sem]) rfl ⟨rfl, ?_⟩
    exact (Only.refl _ w).alloc _
  · have hk1 : (l.length : Int) < k := by omega
    clear hk
    go_enter Try.func37, Try.ntmps37
    go_wp2
    refine bodyPost_ret (v := .tuple #[.agg #[.int .i64 0, .int .i64 0, .string ⟨#[]⟩], .int .i64 0, .int .i64 1]) (by simp [results, Try.results37, go_sem]) rfl ?_
    exact ⟨rfl, (Only.refl _ w).alloc _⟩

set_option maxRecDepth 100000 in
set_option maxHeartbeats 4000000 in
theorem refValue_in {w : World} (A : Option Addr) (n c : Nat) (l : List UInt8) (k : Nat) (hx : Rds w (.slice A n c) (bytesV l)) (hl : l.length ≤ 9223372036854775000) (hk : k ≤ l.length) :
    Calls Try.prog 37 #[.slice A n c, .int .i64 k] w (ValEnd w (rdVal l k)) := by
  obtain ⟨hn, hnc⟩ := rds_n hx
  subst hn
  have HX := hide hx
  have HX' := hide (fun (W : World) (ho : Only (fun _ => False) w W) => hx.only ho fun _ _ => id)
  obtain ⟨rt, hrt⟩ : ∃ r, rdVal l k = r := ⟨_, rfl⟩
  rw [hrt]
  unfold rdVal at hrt
  have hk0 : ¬ (k : Int) < 0 := by omega
  have hk1 : ¬ (l.length : Int) < k := by omega
  by_cases hlt : k < l.length
  · have hne : ¬ (k : Int) = l.length := by omega
    have hltI : (k : Int) < l.length := by omega
    have hk00 : (0 : Int) ≤ (k : Int) := by omega
    have hk1w : IntKind.i64.wrap ((k : Int) + 1) = (k : Int) + 1 := by rw [IntKind.wrap_i64]; omega
    obtain ⟨b, o, rfl, hcell⟩ := rds_cell hx hlt
    have hcA : ∀ ob, (w.alloc ob).cell? ⟨b, o + k, none⟩ = some (.int .u8 (l[k].toNat : Int)) := fun ob => ((Only.refl (fun _ => False) w).alloc ob).cell hcell id
    rw [dif_pos hlt] at hrt
    have hc := l[k].toNat_lt
    obtain ⟨ch, hcc⟩ : ∃ c, l[k].toNat = c := ⟨_, rfl⟩
    rw [hcc] at hcell hrt hc hcA
    have HT := hide hrt
    clear hx hrt hcc
    by_cases hc12 : ch = 1 ∨ ch = 2
    · rcases hc12 with rfl | rfl
      · have ht := HT.out
        rw [if_pos (by decide)] at ht
        subst ht
        go_enter Try.func37, Try.ntmps37
        go_wp2
        refine bodyPost_ret (v := .tuple #[.agg #[.int .i64 1, .int .i64 0, .string ⟨#[]⟩], .int .i64 ((k : Int) + 1), .int .i64 0]) (by simp [results, Try.results37, go_sem]) rfl ?_
        exact ⟨rfl, ((Only.refl _ w).alloc _).alloc _⟩
      · have ht := HT.out
        rw [if_pos (by decide)] at ht
        subst ht
        go_enter Try.func37, Try.ntmps37
        go_wp2
        refine bodyPost_ret (v := .tuple #[.agg #[.int .i64 2, .int .i64 0, .string ⟨#[]⟩], .int .i64 ((k : Int) + 1), .int .i64 0]) (by simp [results, Try.results37, go_sem]) rfl ?_
        exact ⟨rfl, ((Only.refl _ w).alloc _).alloc _⟩
    · have n1 : ¬ ch = 1 := fun e => hc12 (.inl e)
      have n2 : ¬ ch = 2 := fun e => hc12 (.inr e)
      have ht := HT.out
      rw [if_neg hc12] at ht
      clear hc12 HT
      by_cases n3 : ch = 3
      · subst n3
        rw [if_pos rfl] at ht
        by_cases hlt2 : k + 1 < l.length
        · have hne2 : ¬ (k : Int) + 1 = l.length := by omega
          have hlt2I : (k : Int) + 1 < l.length := by omega
          have hk10 : (0 : Int) ≤ (k : Int) + 1 := by omega
          have hk2w : IntKind.i64.wrap ((k : Int) + 1 + 1) = (k : Int) + 1 + 1 := by rw [IntKind.wrap_i64]; omega
          have hcell2 : w.cell? ⟨b, o + (k + 1), none⟩ = some (.int .u8 (l[k + 1].toNat : Int)) := by
            obtain ⟨b', o', e, h⟩ := rds_cell HX.out hlt2
            injection e with e
            injection e with e1 e2 _
            subst e1 e2
            exact h
          have hcB : ∀ ob ob2, ((w.alloc ob).alloc ob2).cell? ⟨b, o + (k + 1), none⟩ = some (.int .u8 (l[k + 1].toNat : Int)) := fun ob ob2 => (((Only.refl (fun _ => False) w).alloc ob).alloc ob2).cell hcell2 id
          rw [dif_pos hlt2] at ht
          have hd := l[k + 1].toNat_lt
          obtain ⟨d, hdd⟩ : ∃ d, l[k + 1].toNat = d := ⟨_, rfl⟩
          rw [hdd] at hcB ht hd
          clear hdd hcell2
          by_cases hd1 : 1 < d
          · have hd1I : (1 : Int) < d := by omega
            rw [if_pos hd1] at ht
            subst ht
            go_enter Try.func37, Try.ntmps37
            go_wp2
            refine bodyPost_ret (v := .tuple #[.agg #[.int .i64 0, .int .i64 0, .string ⟨#[]⟩], .int .i64 0, .int .i64 21]) (by simp [results, Try.results37, go_sem]) rfl ?_
            exact ⟨rfl, ((Only.refl _ w).alloc _).alloc _⟩
          · have hd1I : ¬ (1 : Int) < d := by omega
            rw [if_neg hd1] at ht
            subst ht
            go_enter Try.func37, Try.ntmps37
            go_wp2
            refine bodyPost_ret (v := .tuple #[.agg #[.int .i64 3, .int .i64 (d : Int), .string ⟨#[]⟩], .int .i64 ((k : Int) + 1 + 1), .int .i64 0]) (by simp [results, Try.results37, go_sem]) rfl ?_
            exact ⟨rfl, ((Only.refl _ w).alloc _).alloc _⟩
        · have hne2 : (k : Int) + 1 = l.length := by omega
          rw [dif_neg hlt2] at ht
          subst ht
          go_enter Try.func37, Try.ntmps37
          go_wp2
          refine bodyPost_ret (v := .tuple #[.agg #[.int .i64 0, .int .i64 0, .string ⟨#[]⟩], .int .i64 0, .int .i64 20]) (by simp [results, Try.results37, go_sem]) rfl ?_
          exact ⟨rfl, ((Only.refl _ w).alloc _).alloc _⟩
      · by_cases n4 : ch = 4
        · subst n4
          have HC := hide (fun (W : World) (ho : Only (fun _ => False) w W) => refInt_in (w := W) (some ⟨b, o, none⟩) l.length c l (k + 1) (HX'.out W ho) hl hlt)
          have HZ := hide (rdUint_zero l (k + 1))
          rw [if_neg (by decide), if_pos rfl] at ht
          obtain ⟨⟨rn, rx, rc⟩, hr⟩ : ∃ r, rdUint l (k + 1) = r := ⟨_, rfl⟩
          rw [hr] at HC HZ ht
          simp only at ht HZ
          clear hr
          by_cases hrc : rc = 0
          · subst hrc
            rw [if_pos rfl] at ht
            subst ht
            go_enter Try.func37, Try.ntmps37
            go_wp2_with fail
            refine (HC.out _ (((Only.refl _ w).alloc _).alloc _)).mono ?_
            rintro e w2 ⟨rfl, rfl⟩
            go_wp2
            refine bodyPost_ret (v := .tuple #[.agg #[.int .i64 4, .int .i64 (unzig rn), .string ⟨#[]⟩], .int .i64 rx, .int .i64 0]) (by simp [results, Try.results37, go_sem]) rfl ?_
            exact ⟨rfl, ((Only.refl _ w).alloc _).alloc _⟩
          · obtain ⟨rfl, rfl⟩ := HZ.out hrc
            rw [if_neg hrc] at ht
            subst ht
            go_enter Try.func37, Try.ntmps37
            go_wp2_with fail
            refine (HC.out _ (((Only.refl _ w).alloc _).alloc _)).mono ?_
            rintro e w2 ⟨rfl, rfl⟩
            go_wp2
            refine bodyPost_ret (v := .tuple #[.agg #[.int .i64 0, .int .i64 0, .string ⟨#[]⟩], .int .i64 0, .int .i64 rc]) (by simp [results, Try.results37, go_sem]) rfl ?_
            exact ⟨rfl, ((Only.refl _ w).alloc _).alloc _⟩
        · by_cases n5 : ch = 5
          · subst n5
            have HC := hide (fun (W : World) (ho : Only (fun _ => False) w W) => refText_in (w := W) (some ⟨b, o, none⟩) l.length c l (k + 1) 64 (HX'.out W ho) hl hlt (by omega))
            have HZ := hide (rdText_zero l (k + 1) 64)
            rw [if_neg (by decide), if_neg (by decide), if_pos rfl] at ht
            obtain ⟨⟨rn, rx, rc⟩, hr⟩ : ∃ r, rdText l (k + 1) 64 = r := ⟨_, rfl⟩
            rw [hr] at HC HZ ht
            simp only at ht HZ
            clear hr
            by_cases hrc : rc = 0
            · subst hrc
              rw [if_pos rfl] at ht
              subst ht
              go_enter Try.func37, Try.ntmps37
              go_wp2_with fail
              refine (HC.out _ (((Only.refl _ w).alloc _).alloc _)).mono ?_
              rintro e w2 ⟨rfl, rfl⟩
              go_wp2
              refine bodyPost_ret (v := .tuple #[.agg #[.int .i64 5, .int .i64 0, .string rn], .int .i64 rx, .int .i64 0]) (by simp [results, Try.results37, go_sem]) rfl ?_
              exact ⟨rfl, ((Only.refl _ w).alloc _).alloc _⟩
            · obtain ⟨rfl, rfl⟩ := HZ.out hrc
              rw [if_neg hrc] at ht
              subst ht
              go_enter Try.func37, Try.ntmps37
              go_wp2_with fail
              refine (HC.out _ (((Only.refl _ w).alloc _).alloc _)).mono ?_
              rintro e w2 ⟨rfl, rfl⟩
              go_wp2
              refine bodyPost_ret (v := .tuple #[.agg #[.int .i64 0, .int .i64 0, .string ⟨#[]⟩], .int .i64 0, .int .i64 rc]) (by simp [results, Try.results37, go_sem]) rfl ?_
              exact ⟨rfl, ((Only.refl _ w).alloc _).alloc _⟩
          · rw [if_neg n3, if_neg n4, if_neg n5] at ht
            subst ht
            go_enter Try.func37, Try.ntmps37
            go_wp2
            refine bodyPost_ret (v := .tuple #[.agg #[.int .i64 0, .int .i64 0, .string ⟨#[]⟩], .int .i64 0, .int .i64 21]) (by simp [results, Try.results37, go_sem]) rfl ?_
            exact ⟨rfl, ((Only.refl _ w).alloc _).alloc _⟩
  · have heq : (k : Int) = l.length := by omega
    rw [dif_neg hlt] at hrt
    subst hrt
    clear hx
    go_enter Try.func37, Try.ntmps37
    go_wp2
    refine bodyPost_ret (v := .tuple #[.agg #[.int .i64 0, .int .i64 0, .string ⟨#[]⟩], .int .i64 0, .int .i64 20]) (by simp [results, Try.results37, go_sem]) rfl ?_
    exact ⟨rfl, (Only.refl _ w).alloc _⟩

theorem refValue_any {w : World} (A : Option Addr) (n c : Nat) (l : List UInt8) (k : Int) (hx : Rds w (.slice A n c) (bytesV l)) (hl : l.length ≤ 9223372036854775000) :
    Calls Try.prog 37 #[.slice A n c, .int .i64 k] w (ValEnd w (readVal l k)) := by
  unfold readVal
  by_cases hk : k < 0 ∨ (l.length : Int) < k
  · rw [if_pos hk]; exact refValue_bad A n c l k hx hk
  · rw [if_neg hk]
    have := refValue_in A n c l k.toNat hx hl (by omega)
    rw [Int.toNat_of_nonneg (by omega)] at this
    exact this

end Go.Proofs.Ytldhpbmcpmebaab.Cd
