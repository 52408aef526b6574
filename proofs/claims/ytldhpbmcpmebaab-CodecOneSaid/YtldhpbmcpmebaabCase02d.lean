/- AppendValue, walked. -/
import Derived.Test.YtldhpbmcpmebaabCase02c
import Derived.Deep.RegionWith
set_option linter.unusedVariables false
set_option linter.unusedSimpArgs false
namespace Go.Proofs.Ytldhpbmcpmebaab.Cd
open Go.RowKit

set_option maxRecDepth 100000 in
set_option maxHeartbeats 1000000 in
theorem appendValue_any {w : World} (x : Value) (l : List UInt8) (hx : Rds w x (bytesV l)) (hl : l.length ≤ 100000) (v : VD) (hf : v.Fits) :
    Calls Try.prog 15 #[x, .agg #[.int .i64 v.kind, .int .i64 v.n, .string v.s]] w (BytesCode w (if v.valid then l ++ enc v else []) (if v.valid then 0 else 10)) := by
  have HX := hide hx
  have hll := hide hl
  have HF := hide hf
  have HB := hide (Box3.new w v)
  have HV := hide (fun w2 => valid_any w2 v)
  have HE := hide (fun (w0 w2 : World) (b : Value) (l2 : List UInt8) (F : Fresh w0 w2 b l2) (h2 : l2.length ≤ 1000000) (hv : v.valid = true) => valueTo_any F h2 v hv hf)
  obtain ⟨XA, xn, xc, rfl⟩ := rds_form hx
  have HS : Hid (v.valid = true → v.s.size ≤ 64) := fun h => by
    have h2 := h
    unfold VD.valid at h2
    rcases valid_kind h with k | k | ⟨k, _⟩ | k | ⟨k, h3⟩
    · rw [if_pos (.inl k)] at h2; simp at h2; rw [str_nil h2.2]; decide
    · rw [if_pos (.inr k)] at h2; simp at h2; rw [str_nil h2.2]; decide
    · rw [if_neg (by omega), if_pos k] at h2; simp at h2; rw [str_nil h2.2]; decide
    · rw [if_neg (by omega), if_neg (by omega), if_pos k] at h2; simp at h2; rw [str_nil h2]; decide
    · exact h3
  obtain ⟨kd, nm, s⟩ := v
  obtain ⟨b, hb⟩ : ∃ b, VD.valid ⟨kd, nm, s⟩ = b := ⟨_, rfl⟩
  rw [hb] at HV HS HE ⊢
  clear hx hl hf hb
  obtain ⟨x0, x1, x2⟩ := HB.out
  cases b with
  | false =>
    go_enter Try.func15, Try.ntmps15
    go_wp2_with fail
    refine (HV.out _).mono ?_
    rintro e w2 ⟨rfl, h2⟩
    have O2 : Hid (Only (fun _ => False) w w2) := by rw [h2]; exact ((Only.refl _ _).alloc _).alloc _
    clear h2 x0 x1 x2
    go_wp2
    go_ret2
    exact ⟨_, rfl, (Fresh.nil w).grow O2.out⟩
  | true =>
    have hs := HS.out rfl
    go_enter Try.func15, Try.ntmps15
    go_wp2_with fail
    refine (HV.out _).mono ?_
    rintro e w2 ⟨rfl, h2⟩
    have O1 : Hid (Only (fun _ => False) (w.alloc (.cells #[.int .i64 kd, .int .i64 nm, .string s] 24)) w2) := by rw [h2]; exact (Only.refl _ _).alloc _
    have O2 : Hid (Only (fun _ => False) w w2) := by rw [h2]; exact ((Only.refl _ _).alloc _).alloc _
    clear h2 x0 x1 x2
    obtain ⟨x0, x1, x2⟩ := HB.out.only O1.out id
    simp only at x0 x1 x2
    have hcast : ((12 + s.size : Nat) : Int) = IntKind.i64.wrap (12 + (s.size : Int)) := by rw [IntKind.wrap_i64]; omega
    have HG := hide (fun (w3 : World) (ho : Only (fun _ => False) w w3) => grown_any _ l (HX.out.only ho fun _ _ => id) (12 + s.size) (by have := hll.out; omega))
    rw [hcast] at HG
    clear hcast hs
    go_wp2
    go_region_with (first
      | (go_at_call 59; go_loud (refine (HG.out w2.drew O2.out.drew).mono ?_; rintro e w3 ⟨v3, rfl, F⟩; obtain ⟨A3, n3, c3, rfl⟩ := own_form' F.own; have F1 : Hid (Fresh w w3 (.slice A3 n3 c3) l) := ⟨F.own, O2.out.drew.trans' (F.only), fun k hk => Nat.le_trans O2.out.size (F.new k hk)⟩; have K0 := F.only.cell x0 id; have K1 := F.only.cell x1 id; have K2 := F.only.cell x2 id; clear F))
      | (go_at_call 58; go_loud (refine (HE.out w w3 _ _ F1.out (by have := hll.out; omega) (by first | rfl | trivial)).mono ?_; rintro e w4 ⟨v4, rfl, F, -⟩; obtain ⟨A4, n4, c4, rfl⟩ := own_form' F.own; have F4 := hide F; clear F)))
    all_goals
      go_wp2
      go_ret2
      exact ⟨_, rfl, F4.out⟩

end Go.Proofs.Ytldhpbmcpmebaab.Cd
