/- Values and rows: Valid, valueTo, AppendValue, checkRow, AppendRow, walked. -/
import Derived.Test.YtldhpbmcpmebaabCod02b
set_option linter.unusedVariables false
set_option linter.unusedSimpArgs false
namespace Go.Proofs.Ytldhpbmcpmebaab.Cd
open Go.RowKit

/-- A value, as data. -/
structure VD where
  kind : Int
  n : Int
  s : ByteArray
/-- Its fields are numbers and texts of Go. -/
structure VD.Fits (v : VD) : Prop where
  n0 : -9223372036854775808 ≤ v.n
  n1 : v.n ≤ 9223372036854775807
def VD.valid (v : VD) : Bool :=
  if v.kind = 1 ∨ v.kind = 2 then decide (v.n = 0 ∧ v.s.toList = []) else
  if v.kind = 3 then decide ((v.n = 0 ∨ v.n = 1) ∧ v.s.toList = []) else
  if v.kind = 4 then decide (v.s.toList = []) else
  if v.kind = 5 then decide (v.n = 0 ∧ v.s.size ≤ 64) else false

set_option maxRecDepth 100000 in
set_option maxHeartbeats 4000000 in
theorem valid_any (w : World) (v : VD) :
    Calls Try.prog 57 #[.agg #[.int .i64 v.kind, .int .i64 v.n, .string v.s]] w fun e w' => e = .returned (.bool v.valid) ∧ w' = w.alloc (.cells #[.int .i64 v.kind, .int .i64 v.n, .string v.s] 24) := by
  obtain ⟨kind, n, s⟩ := v
  obtain ⟨b, hb⟩ : ∃ b, VD.valid ⟨kind, n, s⟩ = b := ⟨_, rfl⟩
  rw [hb]
  have HB := hide hb
  clear hb
  by_cases hk : kind = 1 ∨ kind = 2 ∨ kind = 3 ∨ kind = 4 ∨ kind = 5
  · by_cases hs : s.toList = []
    · have hsz : s.size ≤ 64 := by
        have h1 : s.toList.length = s.size := by rw [bytes_toList, Array.length_toList]; rfl
        rw [hs] at h1
        simp at h1
        omega
      by_cases hn : n = 0
      · subst hn
        rcases hk with rfl | rfl | rfl | rfl | rfl
        all_goals
          have hb := HB.out
          simp only [VD.valid, hs, hsz] at hb
          simp at hb
          subst hb
          go_enter Try.func57, Try.ntmps57
          go_wp2
          all_goals
            go_ret
            first
              | exact ⟨rfl, rfl⟩
              | exact ⟨congrArg (fun b => Ending.returned (.bool b)) (show s.toList.isEmpty = _ by simpa using hs), rfl⟩
              | (refine ⟨congrArg (fun b => Ending.returned (.bool b)) (?_ : decide ((s.size : Int) ≤ 64) = _), rfl⟩; simp; omega)
      · by_cases hn1 : n = 1
        · subst hn1
          rcases hk with rfl | rfl | rfl | rfl | rfl
          all_goals
            have hb := HB.out
            simp only [VD.valid, hs, hsz] at hb
            simp at hb
            subst hb
            go_enter Try.func57, Try.ntmps57
            go_wp2
            all_goals
              go_ret
              first
                | exact ⟨rfl, rfl⟩
                | exact ⟨congrArg (fun b => Ending.returned (.bool b)) (show s.toList.isEmpty = _ by simpa using hs), rfl⟩
                | (refine ⟨congrArg (fun b => Ending.returned (.bool b)) (?_ : decide ((s.size : Int) ≤ 64) = _), rfl⟩; simp; omega)
        · rcases hk with rfl | rfl | rfl | rfl | rfl
          all_goals
            have hb := HB.out
            simp only [VD.valid, hs, hsz, hn, hn1] at hb
            simp at hb
            subst hb
            go_enter Try.func57, Try.ntmps57
            go_wp2
            all_goals
              go_ret
              first
                | exact ⟨rfl, rfl⟩
                | exact ⟨congrArg (fun b => Ending.returned (.bool b)) (show s.toList.isEmpty = _ by simpa using hs), rfl⟩
                | (refine ⟨congrArg (fun b => Ending.returned (.bool b)) (?_ : decide ((s.size : Int) ≤ 64) = _), rfl⟩; simp; omega)
    · by_cases hsz : s.size ≤ 64
      · by_cases hn : n = 0
        · subst hn
          rcases hk with rfl | rfl | rfl | rfl | rfl
          all_goals
            have hb := HB.out
            simp only [VD.valid, hs, hsz] at hb
            simp at hb
            subst hb
            go_enter Try.func57, Try.ntmps57
            go_wp2
            all_goals
              go_ret
              first
                | exact ⟨rfl, rfl⟩
                | exact ⟨congrArg (fun b => Ending.returned (.bool b)) (show s.toList.isEmpty = _ by simpa using hs), rfl⟩
                | (refine ⟨congrArg (fun b => Ending.returned (.bool b)) (?_ : decide ((s.size : Int) ≤ 64) = _), rfl⟩; simp; omega)
        · by_cases hn1 : n = 1
          · subst hn1
            rcases hk with rfl | rfl | rfl | rfl | rfl
            all_goals
              have hb := HB.out
              simp only [VD.valid, hs, hsz] at hb
              simp at hb
              subst hb
              go_enter Try.func57, Try.ntmps57
              go_wp2
              all_goals
                go_ret
                first
                  | exact ⟨rfl, rfl⟩
                  | exact ⟨congrArg (fun b => Ending.returned (.bool b)) (show s.toList.isEmpty = _ by simpa using hs), rfl⟩
                  | (refine ⟨congrArg (fun b => Ending.returned (.bool b)) (?_ : decide ((s.size : Int) ≤ 64) = _), rfl⟩; simp; omega)
          · rcases hk with rfl | rfl | rfl | rfl | rfl
            all_goals
              have hb := HB.out
              simp only [VD.valid, hs, hsz, hn, hn1] at hb
              simp at hb
              subst hb
              go_enter Try.func57, Try.ntmps57
              go_wp2
              all_goals
                go_ret
                first
                  | exact ⟨rfl, rfl⟩
                  | exact ⟨congrArg (fun b => Ending.returned (.bool b)) (show s.toList.isEmpty = _ by simpa using hs), rfl⟩
                  | (refine ⟨congrArg (fun b => Ending.returned (.bool b)) (?_ : decide ((s.size : Int) ≤ 64) = _), rfl⟩; simp; omega)
      · by_cases hn : n = 0
        · subst hn
          rcases hk with rfl | rfl | rfl | rfl | rfl
          all_goals
            have hb := HB.out
            simp only [VD.valid, hs, hsz] at hb
            simp at hb
            subst hb
            go_enter Try.func57, Try.ntmps57
            go_wp2
            all_goals
              go_ret
              first
                | exact ⟨rfl, rfl⟩
                | exact ⟨congrArg (fun b => Ending.returned (.bool b)) (show s.toList.isEmpty = _ by simpa using hs), rfl⟩
                | (refine ⟨congrArg (fun b => Ending.returned (.bool b)) (?_ : decide ((s.size : Int) ≤ 64) = _), rfl⟩; simp; omega)
        · by_cases hn1 : n = 1
          · subst hn1
            rcases hk with rfl | rfl | rfl | rfl | rfl
            all_goals
              have hb := HB.out
              simp only [VD.valid, hs, hsz] at hb
              simp at hb
              subst hb
              go_enter Try.func57, Try.ntmps57
              go_wp2
              all_goals
                go_ret
                first
                  | exact ⟨rfl, rfl⟩
                  | exact ⟨congrArg (fun b => Ending.returned (.bool b)) (show s.toList.isEmpty = _ by simpa using hs), rfl⟩
                  | (refine ⟨congrArg (fun b => Ending.returned (.bool b)) (?_ : decide ((s.size : Int) ≤ 64) = _), rfl⟩; simp; omega)
          · rcases hk with rfl | rfl | rfl | rfl | rfl
            all_goals
              have hb := HB.out
              simp only [VD.valid, hs, hsz, hn, hn1] at hb
              simp at hb
              subst hb
              go_enter Try.func57, Try.ntmps57
              go_wp2
              all_goals
                go_ret
                first
                  | exact ⟨rfl, rfl⟩
                  | exact ⟨congrArg (fun b => Ending.returned (.bool b)) (show s.toList.isEmpty = _ by simpa using hs), rfl⟩
                  | (refine ⟨congrArg (fun b => Ending.returned (.bool b)) (?_ : decide ((s.size : Int) ≤ 64) = _), rfl⟩; simp; omega)
  · have h1 : (kind == 1) = false := by simp; omega
    have h2 : (kind == 2) = false := by simp; omega
    have h3 : (kind == 3) = false := by simp; omega
    have h4 : (kind == 4) = false := by simp; omega
    have h5 : (kind == 5) = false := by simp; omega
    have hb := HB.out
    simp only [VD.valid] at hb
    rw [if_neg (by omega), if_neg (by omega), if_neg (by omega), if_neg (by omega)] at hb
    subst hb
    clear hk
    go_enter Try.func57, Try.ntmps57
    go_wp2
    go_ret
    exact ⟨rfl, rfl⟩

end Go.Proofs.Ytldhpbmcpmebaab.Cd
