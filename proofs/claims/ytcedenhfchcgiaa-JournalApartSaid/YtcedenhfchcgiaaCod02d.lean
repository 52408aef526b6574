/- valueTo, walked. -/
import Derived.Test.YtcedenhfchcgiaaCod02c
set_option linter.unusedVariables false
set_option linter.unusedSimpArgs false
namespace Go.Proofs.Ytcedenhfchcgiaa.Cd
open Go.RowKit

theorem src_oneG (w : World) (g : Nat) (hg : g = w.heap.size) (b : UInt8) (z : Int) (hz : z = (b.toNat : Int)) : Src Try.prog 1 23 (.slice (some ⟨g, 0, none⟩) 1 1) 1 (bytesV [b]) (w.alloc (.cells #[.int .u8 z] 5)) := by
  subst hg
  exact src_one w b z hz
/-- A value that lies in three cells. -/
structure Box3 (w : World) (p : Nat) (v : VD) : Prop where
  c0 : w.cell? ⟨p, 0, none⟩ = some (.int .i64 v.kind)
  c1 : w.cell? ⟨p, 1, none⟩ = some (.int .i64 v.n)
  c2 : w.cell? ⟨p, 2, none⟩ = some (.string v.s)
theorem Box3.only {S : Nat → Prop} {w w' : World} {p : Nat} {v : VD} (h : Box3 w p v) (ho : Only S w w') (hn : ¬ S p) : Box3 w' p v := ⟨ho.cell h.c0 hn, ho.cell h.c1 hn, ho.cell h.c2 hn⟩
theorem Box3.grows {w w' : World} {p : Nat} {x : VD} {v v' : Value} (h : Box3 w p x) (hv : v.ownBlock ≠ some p) (g : Grows w v w' v') : Box3 w' p x ∧ v'.ownBlock ≠ some p := by
  refine ⟨h.only g.only hv, fun e => ?_⟩
  rcases g.own with h2 | ⟨k, h2, hk⟩
  · rw [h2] at e; exact hv e
  · rw [h2] at e; injection e with e
    have := World.block_lt_of_cell? _ _ h.c0
    simp only at this
    omega
/-- The bytes of a valid value. -/
def enc (v : VD) : List UInt8 :=
  UInt8.ofNat v.kind.toNat :: (if v.kind = 3 then [UInt8.ofNat v.n.toNat] else if v.kind = 4 then leb (zig v.n) else if v.kind = 5 then leb v.s.size ++ v.s.data.toList else [])
theorem Grows.lead {w w1 w2 : World} {v v' : Value} (ho : Only (fun _ => False) w w1) (g : Grows w1 v w2 v') : Grows w v w2 v' :=
  ⟨(ho.mono fun _ _ h => h.elim).trans' g.only, g.own.imp id fun ⟨k, h1, h2⟩ => ⟨k, h1, Nat.le_trans ho.size h2⟩⟩
theorem valid_kind {v : VD} (h : v.valid = true) : v.kind = 1 ∨ v.kind = 2 ∨ (v.kind = 3 ∧ (v.n = 0 ∨ v.n = 1)) ∨ v.kind = 4 ∨ (v.kind = 5 ∧ v.s.size ≤ 64) := by
  unfold VD.valid at h
  split at h
  · omega
  · split at h
    · rename_i h3
      simp at h
      exact .inr (.inr (.inl ⟨h3, h.1⟩))
    · split at h
      · omega
      · split at h
        · rename_i h5
          simp at h
          exact .inr (.inr (.inr (.inr ⟨h5, h.2⟩)))
        · cases h
theorem enc_len {v : VD} (h : v.valid = true) (hf : v.Fits) : (enc v).length ≤ 75 := by
  unfold enc
  rw [List.length_cons]
  rcases valid_kind h with k | k | ⟨k, -⟩ | k | ⟨k, hs⟩
  · rw [if_neg (by omega), if_neg (by omega), if_neg (by omega)]; simp
  · rw [if_neg (by omega), if_neg (by omega), if_neg (by omega)]; simp
  · rw [if_pos k]; simp
  · rw [if_neg (by omega), if_pos k]
    have := leb_len10 (zig_lt hf.n0 hf.n1)
    omega
  · rw [if_neg (by omega), if_neg (by omega), if_pos k, List.length_append]
    have := leb_len10 (show v.s.size < 18446744073709551616 by omega)
    have h2 : v.s.data.toList.length = v.s.size := by rw [Array.length_toList]; rfl
    omega

end Go.Proofs.Ytcedenhfchcgiaa.Cd

