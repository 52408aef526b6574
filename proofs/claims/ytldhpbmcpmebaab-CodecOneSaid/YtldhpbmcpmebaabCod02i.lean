/- The reference's Valid, walked. -/
import Derived.Test.YtldhpbmcpmebaabCod02c
set_option linter.unusedVariables false
set_option linter.unusedSimpArgs false
namespace Go.Proofs.Ytldhpbmcpmebaab.Cd
open Go.RowKit

set_option maxRecDepth 100000 in
set_option maxHeartbeats 4000000 in
theorem refvalid_any (w : World) (v : VD) :
    Calls Try.prog 60 #[.agg #[.int .i64 v.kind, .int .i64 v.n, .string v.s]] w fun e w' => e = .returned (.bool v.valid) ∧ Only (fun _ => False) w w' := by
  obtain ⟨kind, n, s⟩ := v
  obtain ⟨b, hb⟩ : ∃ b, VD.valid ⟨kind, n, s⟩ = b := ⟨_, rfl⟩
  rw [hb]
  have HB := hide hb
  clear hb
  by_cases hk : kind = 1 ∨ kind = 2 ∨ kind = 3 ∨ kind = 4 ∨ kind = 5
  · by_cases hs : s.toList = []
    · have hsz : s.size ≤ 64 := by
        have h1 : s.toList.length = s.size := by rw [bytes_toList, Array.length_toList]; rfl
        rw [hs] at h1
        simp at h1
        omega
      by_cases hn : n = 0
      · subst hn
        rcases hk with rfl | rfl | rfl | rfl | rfl
        all_goals
          have hb := HB.out
          simp only [VD.valid, hs, hsz] at hb
          simp at hb
          subst hb
          go_enter Try.func60, Try.ntmps60
          go_wp2
          all_goals
            go_ret
            first
              | exact ⟨rfl, (Only.refl _ w).alloc _⟩
              | exact ⟨congrArg (fun b => Ending.returned (.bool b)) (show s.toList.isEmpty = _ by simpa using hs), (Only.refl _ w).alloc _⟩
              | (refine ⟨congrArg (fun b => Ending.returned (.bool b)) (?_ : decide ((s.size : Int) ≤ 64) = _), (Only.refl _ w).alloc _⟩; simp; omega)
      · by_cases hn1 : n = 1
        · subst hn1
          rcases hk with rfl | rfl | rfl | rfl | rfl
          all_goals
            have hb := HB.out
            simp only [VD.valid, hs, hsz] at hb
            simp at hb
            subst hb
            go_enter Try.func60, Try.ntmps60
            go_wp2
            all_goals
              go_ret
              first
                | exact ⟨rfl, (Only.refl _ w).alloc _⟩
                | exact ⟨congrArg (fun b => Ending.returned (.bool b)) (show s.toList.isEmpty = _ by simpa using hs), (Only.refl _ w).alloc _⟩
                | (refine ⟨congrArg (fun b => Ending.returned (.bool b)) (?_ : decide ((s.size : Int) ≤ 64) = _), (Only.refl _ w).alloc _⟩; simp; omega)
        · rcases hk with rfl | rfl | rfl | rfl | rfl
          all_goals
            have hb := HB.out
            simp only [VD.valid, hs, hsz, hn, hn1] at hb
            simp at hb
            subst hb
            go_enter Try.func60, Try.ntmps60
            go_wp2
            all_goals
              go_ret
              first
                | exact ⟨rfl, (Only.refl _ w).alloc _⟩
                | exact ⟨congrArg (fun b => Ending.returned (.bool b)) (show s.toList.isEmpty = _ by simpa using hs), (Only.refl _ w).alloc _⟩
                | (refine ⟨congrArg (fun b => Ending.returned (.bool b)) (?_ : decide ((s.size : Int) ≤ 64) = _), (Only.refl _ w).alloc _⟩; simp; omega)
    · by_cases hsz : s.size ≤ 64
      · by_cases hn : n = 0
        · subst hn
          rcases hk with rfl | rfl | rfl | rfl | rfl
          all_goals
            have hb := HB.out
            simp only [VD.valid, hs, hsz] at hb
            simp at hb
            subst hb
            go_enter Try.func60, Try.ntmps60
            go_wp2
            all_goals
              go_ret
              first
                | exact ⟨rfl, (Only.refl _ w).alloc _⟩
                | exact ⟨congrArg (fun b => Ending.returned (.bool b)) (show s.toList.isEmpty = _ by simpa using hs), (Only.refl _ w).alloc _⟩
                | (refine ⟨congrArg (fun b => Ending.returned (.bool b)) (?_ : decide ((s.size : Int) ≤ 64) = _), (Only.refl _ w).alloc _⟩; simp; omega)
        · by_cases hn1 : n = 1
          · subst hn1
            rcases hk with rfl | rfl | rfl | rfl | rfl
            all_goals
              have hb := HB.out
              simp only [VD.valid, hs, hsz] at hb
              simp at hb
              subst hb
              go_enter Try.func60, Try.ntmps60
              go_wp2
              all_goals
                go_ret
                first
                  | exact ⟨rfl, (Only.refl _ w).alloc _⟩
                  | exact ⟨congrArg (fun b => Ending.returned (.bool b)) (show s.toList.isEmpty = _ by simpa using hs), (Only.refl _ w).alloc _⟩
                  | (refine ⟨congrArg (fun b => Ending.returned (.bool b)) (?_ : decide ((s.size : Int) ≤ 64) = _), (Only.refl _ w).alloc _⟩; simp; omega)
          · rcases hk with rfl | rfl | rfl | rfl | rfl
            all_goals
              have hb := HB.out
              simp only [VD.valid, hs, hsz, hn, hn1] at hb
              simp at hb
              subst hb
              go_enter Try.func60, Try.ntmps60
              go_wp2
              all_goals
                go_ret
                first
                  | exact ⟨rfl, (Only.refl _ w).alloc _⟩
                  | exact ⟨congrArg (fun b => Ending.returned (.bool b)) (show s.toList.isEmpty = _ by simpa using hs), (Only.refl _ w).alloc _⟩
                  | (refine ⟨congrArg (fun b => Ending.returned (.bool b)) (?_ : decide ((s.size : Int) ≤ 64) = _), (Only.refl _ w).alloc _⟩; simp; omega)
      · by_cases hn : n = 0
        · subst hn
          rcases hk with rfl | rfl | rfl | rfl | rfl
          all_goals
            have hb := HB.out
            simp only [VD.valid, hs, hsz] at hb
            simp at hb
            subst hb
            go_enter Try.func60, Try.ntmps60
            go_wp2
            all_goals
              go_ret
              first
                | exact ⟨rfl, (Only.refl _ w).alloc _⟩
                | exact ⟨congrArg (fun b => Ending.returned (.bool b)) (show s.toList.isEmpty = _ by simpa using hs), (Only.refl _ w).alloc _⟩
                | (refine ⟨congrArg (fun b => Ending.returned (.bool b)) (?_ : decide ((s.size : Int) ≤ 64) = _), (Only.refl _ w).alloc _⟩; simp; omega)
        · by_cases hn1 : n = 1
          · subst hn1
            rcases hk with rfl | rfl | rfl | rfl | rfl
            all_goals
              have hb := HB.out
              simp only [VD.valid, hs, hsz] at hb
              simp at hb
              subst hb
              go_enter Try.func60, Try.ntmps60
              go_wp2
              all_goals
                go_ret
                first
                  | exact ⟨rfl, (Only.refl _ w).alloc _⟩
                  | exact ⟨congrArg (fun b => Ending.returned (.bool b)) (show s.toList.isEmpty = _ by simpa using hs), (Only.refl _ w).alloc _⟩
                  | (refine ⟨congrArg (fun b => Ending.returned (.bool b)) (?_ : decide ((s.size : Int) ≤ 64) = _), (Only.refl _ w).alloc _⟩; simp; omega)
          · rcases hk with rfl | rfl | rfl | rfl | rfl
            all_goals
              have hb := HB.out
              simp only [VD.valid, hs, hsz, hn, hn1] at hb
              simp at hb
              subst hb
              go_enter Try.func60, Try.ntmps60
              go_wp2
              all_goals
                go_ret
                first
                  | exact ⟨rfl, (Only.refl _ w).alloc _⟩
                  | exact ⟨congrArg (fun b => Ending.returned (.bool b)) (show s.toList.isEmpty = _ by simpa using hs), (Only.refl _ w).alloc _⟩
                  | (refine ⟨congrArg (fun b => Ending.returned (.bool b)) (?_ : decide ((s.size : Int) ≤ 64) = _), (Only.refl _ w).alloc _⟩; simp; omega)
  · have h1 : (kind == 1) = false := by simp; omega
    have h2 : (kind == 2) = false := by simp; omega
    have h3 : (kind == 3) = false := by simp; omega
    have h4 : (kind == 4) = false := by simp; omega
    have h5 : (kind == 5) = false := by simp; omega
    have hb := HB.out
    simp only [VD.valid] at hb
    rw [if_neg (by omega), if_neg (by omega), if_neg (by omega), if_neg (by omega)] at hb
    subst hb
    clear hk
    go_enter Try.func60, Try.ntmps60
    go_wp2
    go_ret
    exact ⟨rfl, (Only.refl _ w).alloc _⟩

end Go.Proofs.Ytldhpbmcpmebaab.Cd
