/- valueTo, walked. -/
import Derived.Test.YtldhpbmcpmebaabCod02c
set_option linter.unusedVariables false
set_option linter.unusedSimpArgs false
namespace Go.Proofs.Ytldhpbmcpmebaab.Cd
open Go.RowKit

theorem src_oneG (w : World) (g : Nat) (hg : g = w.heap.size) (b : UInt8) (z : Int) (hz : z = (b.toNat : Int)) : Src Try.prog 1 22 (.slice (some ⟨g, 0, none⟩) 1 1) 1 (bytesV [b]) (w.alloc (.cells #[.int .u8 z] 5)) := by
  subst hg
  exact src_one w b z hz
/-- A value that lies in three cells. -/
structure Box3 (w : World) (p : Nat) (v : VD) : Prop where
  c0 : w.cell? ⟨p, 0, none⟩ = some (.int .i64 v.kind)
  c1 : w.cell? ⟨p, 1, none⟩ = some (.int .i64 v.n)
  c2 : w.cell? ⟨p, 2, none⟩ = some (.string v.s)
theorem Box3.only {S : Nat → Prop} {w w' : World} {p : Nat} {v : VD} (h : Box3 w p v) (ho : Only S w w') (hn : ¬ S p) : Box3 w' p v := ⟨ho.cell h.c0 hn, ho.cell h.c1 hn, ho.cell h.c2 hn⟩
theorem Box3.new (w : World) (v : VD) : Box3 (w.alloc (.cells #[.int .i64 v.kind, .int .i64 v.n, .string v.s] 24)) w.heap.size v := by
  refine ⟨?_, ?_, ?_⟩ <;> rw [cell_of_heap (heap_alloc_new w _)] <;> rfl
theorem Box3.grows {w w' : World} {p : Nat} {x : VD} {v v' : Value} (h : Box3 w p x) (hv : v.ownBlock ≠ some p) (g : Grows w v w' v') : Box3 w' p x ∧ v'.ownBlock ≠ some p := by
  refine ⟨h.only g.only hv, fun e => ?_⟩
  rcases g.own with h2 | ⟨k, h2, hk⟩
  · rw [h2] at e; exact hv e
  · rw [h2] at e; injection e with e
    have := World.block_lt_of_cell? _ _ h.c0
    simp only at this
    omega
/-- The bytes of a valid value. -/
def enc (v : VD) : List UInt8 :=
  UInt8.ofNat v.kind.toNat :: (if v.kind = 3 then [UInt8.ofNat v.n.toNat] else if v.kind = 4 then leb (zig v.n) else if v.kind = 5 then leb v.s.size ++ v.s.data.toList else [])
theorem Grows.lead {w w1 w2 : World} {v v' : Value} (ho : Only (fun _ => False) w w1) (g : Grows w1 v w2 v') : Grows w v w2 v' :=
  ⟨(ho.mono fun _ _ h => h.elim).trans' g.only, g.own.imp id fun ⟨k, h1, h2⟩ => ⟨k, h1, Nat.le_trans ho.size h2⟩⟩
theorem valid_kind {v : VD} (h : v.valid = true) : v.kind = 1 ∨ v.kind = 2 ∨ (v.kind = 3 ∧ (v.n = 0 ∨ v.n = 1)) ∨ v.kind = 4 ∨ (v.kind = 5 ∧ v.s.size ≤ 64) := by
  unfold VD.valid at h
  split at h
  · omega
  · split at h
    · rename_i h3
      simp at h
      exact .inr (.inr (.inl ⟨h3, h.1⟩))
    · split at h
      · omega
      · split at h
        · rename_i h5
          simp at h
          exact .inr (.inr (.inr (.inr ⟨h5, h.2⟩)))
        · cases h
theorem enc_len {v : VD} (h : v.valid = true) (hf : v.Fits) : (enc v).length ≤ 75 := by
  unfold enc
  rw [List.length_cons]
  rcases valid_kind h with k | k | ⟨k, -⟩ | k | ⟨k, hs⟩
  · rw [if_neg (by omega), if_neg (by omega), if_neg (by omega)]; simp
  · rw [if_neg (by omega), if_neg (by omega), if_neg (by omega)]; simp
  · rw [if_pos k]; simp
  · rw [if_neg (by omega), if_pos k]
    have := leb_len10 (zig_lt hf.n0 hf.n1)
    omega
  · rw [if_neg (by omega), if_neg (by omega), if_pos k, List.length_append]
    have := leb_len10 (show v.s.size < 18446744073709551616 by omega)
    have h2 : v.s.data.toList.length = v.s.size := by rw [Array.length_toList]; rfl
    omega

set_option maxRecDepth 100000 in
set_option maxHeartbeats 2000000 in
theorem valueTo_any {w0 w : World} {b : Value} {l : List UInt8} (h : Fresh w0 w b l) (hl : l.length ≤ 1000000) (v : VD) (hv : v.valid = true) (hf : v.Fits) :
    Calls Try.prog 58 #[b, .agg #[.int .i64 v.kind, .int .i64 v.n, .string v.s]] w (PushEnd w0 w b (l ++ enc v)) := by
  obtain ⟨A, n, c, rfl⟩ := own_form' h.own
  have B := hide (And.intro (Box3.new w v) (show (Value.slice A n c).ownBlock ≠ some w.heap.size from fun e => by
    obtain ⟨cur, hc⟩ := owns_block h.own e
    have := heap_lt hc
    omega))
  have HW := hide ((Only.refl (fun _ => False) w).alloc (.cells #[.int .i64 v.kind, .int .i64 v.n, .string v.s] 24))
  have H := hide (h.grow ((Only.refl _ w).alloc (.cells #[.int .i64 v.kind, .int .i64 v.n, .string v.s] 24)))
  have hl := hide hl
  have hk := valid_kind hv
  have HF := hide hf
  obtain ⟨kind, num, s⟩ := v
  simp only at hk
  clear h hv hf
  rcases hk with rfl | rfl | ⟨rfl, hn⟩ | rfl | ⟨rfl, hs⟩
  · go_enter Try.func58, Try.ntmps58
    go_wp2_with (at_builtin; refine wp_app rfl _ _ 22 rfl (.slice A n c) _ (l) rfl (H.out.grow ((Only.refl _ _).alloc _)).own _ rfl 1 [UInt8.ofNat 1] (src_oneG _ _ (by first | rfl | simp) _ _ (by first | rfl | decide)) (by have := hl.out; simp only [List.length_singleton, List.length_append]; unfold lim47; omega) ?_; intro v1 w1 g1 g2 g3; have F1 := hide ((H.out.grow ((Only.refl _ _).alloc _)).push g1 g2 g3); have G1 := hide (Grows.push ((Only.refl (fun _ => False) _).alloc _) g2 g3); have B1 := hide (Box3.grows B.out.1 B.out.2 G1.out); obtain ⟨A1, n1, c1, rfl⟩ := own_form' g1; obtain ⟨x0, x1, x2⟩ := B1.out.1; clear g1 g2 g3)
    go_ret
    exact ⟨_, rfl, F1.out, Grows.lead HW.out G1.out⟩
  · go_enter Try.func58, Try.ntmps58
    go_wp2_with (at_builtin; refine wp_app rfl _ _ 22 rfl (.slice A n c) _ (l) rfl (H.out.grow ((Only.refl _ _).alloc _)).own _ rfl 1 [UInt8.ofNat 2] (src_oneG _ _ (by first | rfl | simp) _ _ (by first | rfl | decide)) (by have := hl.out; simp only [List.length_singleton, List.length_append]; unfold lim47; omega) ?_; intro v1 w1 g1 g2 g3; have F1 := hide ((H.out.grow ((Only.refl _ _).alloc _)).push g1 g2 g3); have G1 := hide (Grows.push ((Only.refl (fun _ => False) _).alloc _) g2 g3); have B1 := hide (Box3.grows B.out.1 B.out.2 G1.out); obtain ⟨A1, n1, c1, rfl⟩ := own_form' g1; obtain ⟨x0, x1, x2⟩ := B1.out.1; clear g1 g2 g3)
    go_ret
    exact ⟨_, rfl, F1.out, Grows.lead HW.out G1.out⟩
  · rcases hn with rfl | rfl
    · go_enter Try.func58, Try.ntmps58
      go_wp2_with (first
        | (at_builtin; refine wp_app rfl _ _ 22 rfl (.slice A n c) _ (l) rfl (H.out.grow ((Only.refl _ _).alloc _)).own _ rfl 1 [UInt8.ofNat 3] (src_oneG _ _ (by first | rfl | simp) _ _ (by first | rfl | decide)) (by have := hl.out; simp only [List.length_singleton, List.length_append]; unfold lim47; omega) ?_; intro v1 w1 g1 g2 g3; have F1 := hide ((H.out.grow ((Only.refl _ _).alloc _)).push g1 g2 g3); have G1 := hide (Grows.push ((Only.refl (fun _ => False) _).alloc _) g2 g3); have B1 := hide (Box3.grows B.out.1 B.out.2 G1.out); obtain ⟨A1, n1, c1, rfl⟩ := own_form' g1; obtain ⟨x0, x1, x2⟩ := B1.out.1; clear g1 g2 g3)
        | (at_builtin; refine wp_app rfl _ _ 22 rfl (.slice A1 n1 c1) _ (l ++ [UInt8.ofNat 3]) rfl (F1.out.grow ((Only.refl _ _).alloc _)).own _ rfl 1 [UInt8.ofNat 0] (src_oneG _ _ (by first | rfl | simp) _ _ (by first | rfl | decide)) (by have := hl.out; simp only [List.length_singleton, List.length_append]; unfold lim47; omega) ?_; intro v2 w2 g1 g2 g3; have F2 := hide ((F1.out.grow ((Only.refl _ _).alloc _)).push g1 g2 g3); have G2 := hide (Grows.push ((Only.refl (fun _ => False) _).alloc _) g2 g3); have B2 := hide (Box3.grows B1.out.1 B1.out.2 G2.out); obtain ⟨A2, n2, c2, rfl⟩ := own_form' g1; obtain ⟨x0, x1, x2⟩ := B2.out.1; clear g1 g2 g3))
      go_ret
      refine ⟨_, rfl, ?_, Grows.lead HW.out (G1.out.trans G2.out)⟩
      have := F2.out
      rw [List.append_assoc] at this
      exact this
    · go_enter Try.func58, Try.ntmps58
      go_wp2_with (first
        | (at_builtin; refine wp_app rfl _ _ 22 rfl (.slice A n c) _ (l) rfl (H.out.grow ((Only.refl _ _).alloc _)).own _ rfl 1 [UInt8.ofNat 3] (src_oneG _ _ (by first | rfl | simp) _ _ (by first | rfl | decide)) (by have := hl.out; simp only [List.length_singleton, List.length_append]; unfold lim47; omega) ?_; intro v1 w1 g1 g2 g3; have F1 := hide ((H.out.grow ((Only.refl _ _).alloc _)).push g1 g2 g3); have G1 := hide (Grows.push ((Only.refl (fun _ => False) _).alloc _) g2 g3); have B1 := hide (Box3.grows B.out.1 B.out.2 G1.out); obtain ⟨A1, n1, c1, rfl⟩ := own_form' g1; obtain ⟨x0, x1, x2⟩ := B1.out.1; clear g1 g2 g3)
        | (at_builtin; refine wp_app rfl _ _ 22 rfl (.slice A1 n1 c1) _ (l ++ [UInt8.ofNat 3]) rfl (F1.out.grow ((Only.refl _ _).alloc _)).own _ rfl 1 [UInt8.ofNat 1] (src_oneG _ _ (by first | rfl | simp) _ _ (by first | rfl | decide)) (by have := hl.out; simp only [List.length_singleton, List.length_append]; unfold lim47; omega) ?_; intro v2 w2 g1 g2 g3; have F2 := hide ((F1.out.grow ((Only.refl _ _).alloc _)).push g1 g2 g3); have G2 := hide (Grows.push ((Only.refl (fun _ => False) _).alloc _) g2 g3); have B2 := hide (Box3.grows B1.out.1 B1.out.2 G2.out); obtain ⟨A2, n2, c2, rfl⟩ := own_form' g1; obtain ⟨x0, x1, x2⟩ := B2.out.1; clear g1 g2 g3))
      go_ret
      refine ⟨_, rfl, ?_, Grows.lead HW.out (G1.out.trans G2.out)⟩
      have := F2.out
      rw [List.append_assoc] at this
      exact this
  · have hz0 := HF.out.n0
    have hz1 := HF.out.n1
    have HZ := hide (fun w2 => zigzag_any w2 num hz0 hz1)
    have HU := hide (fun (w2 : World) (v : Value) (l2 : List UInt8) (F : Fresh w0 w2 v l2) (h2 : l2.length ≤ 1000000000) => uintTo_any F (zig num) (zig_lt hz0 hz1) h2)
    clear hz0 hz1
    have e : enc ⟨4, num, s⟩ = [UInt8.ofNat 4] ++ leb (zig num) := rfl
    rw [e]
    clear e
    generalize zig num = z at *
    go_enter Try.func58, Try.ntmps58
    go_wp2_with (at_builtin; refine wp_app rfl _ _ 22 rfl (.slice A n c) _ (l) rfl (H.out.grow ((Only.refl _ _).alloc _)).own _ rfl 1 [UInt8.ofNat 4] (src_oneG _ _ (by first | rfl | simp) _ _ (by first | rfl | decide)) (by have := hl.out; simp only [List.length_singleton, List.length_append]; unfold lim47; omega) ?_; intro v1 w1 g1 g2 g3; have F1 := hide ((H.out.grow ((Only.refl _ _).alloc _)).push g1 g2 g3); have G1 := hide (Grows.push ((Only.refl (fun _ => False) _).alloc _) g2 g3); have B1 := hide (Box3.grows B.out.1 B.out.2 G1.out); obtain ⟨A1, n1, c1, rfl⟩ := own_form' g1; obtain ⟨x0, x1, x2⟩ := B1.out.1; clear g1 g2 g3)
    refine (HZ.out _).mono ?_
    rintro e w2 ⟨rfl, rfl⟩
    go_wp2_with fail
    refine (HU.out _ _ _ F1.out (by have := hl.out; rw [List.length_append]; simp; omega)).mono ?_
    rintro e w2 ⟨v, rfl, F, G⟩
    obtain ⟨A2, n2, c2, rfl⟩ := own_form' F.own
    have F2 := hide F
    have G2 := hide G
    clear F G
    go_wp2_with fail
    go_ret
    refine ⟨_, rfl, ?_, Grows.lead HW.out (G1.out.trans G2.out)⟩
    have := F2.out
    rw [List.append_assoc] at this
    exact this
  · have HU := hide (fun (w2 : World) (v : Value) (l2 : List UInt8) (F : Fresh w0 w2 v l2) (h2 : l2.length ≤ 1000000000) => uintTo_any F s.size (by omega) h2)
    have HL := hide (leb_len10 (show s.size < 18446744073709551616 by omega))
    have hsl : Hid (s.data.toList.length = s.size) := by show _ = _; rw [Array.length_toList]; rfl
    have e : enc ⟨5, num, s⟩ = [UInt8.ofNat 5] ++ (leb s.size ++ s.data.toList) := rfl
    rw [e]
    clear e
    go_enter Try.func58, Try.ntmps58
    go_wp2_with (at_builtin; refine wp_app rfl _ _ 22 rfl (.slice A n c) _ (l) rfl (H.out.grow ((Only.refl _ _).alloc _)).own _ rfl 1 [UInt8.ofNat 5] (src_oneG _ _ (by first | rfl | simp) _ _ (by first | rfl | decide)) (by have := hl.out; simp only [List.length_singleton, List.length_append]; unfold lim47; omega) ?_; intro v1 w1 g1 g2 g3; have F1 := hide ((H.out.grow ((Only.refl _ _).alloc _)).push g1 g2 g3); have G1 := hide (Grows.push ((Only.refl (fun _ => False) _).alloc _) g2 g3); have B1 := hide (Box3.grows B.out.1 B.out.2 G1.out); obtain ⟨A1, n1, c1, rfl⟩ := own_form' g1; obtain ⟨x0, x1, x2⟩ := B1.out.1; clear g1 g2 g3)
    refine (HU.out _ _ _ F1.out (by have := hl.out; rw [List.length_append]; simp; omega)).mono ?_
    rintro e w2 ⟨v, rfl, F, G⟩
    obtain ⟨A2, n2, c2, rfl⟩ := own_form' F.own
    have F2 := hide F
    have G2 := hide G
    have B2 := hide (Box3.grows B1.out.1 B1.out.2 G)
    clear x0 x1 x2 F G
    obtain ⟨x0, x1, x2⟩ := B2.out.1
    go_wp2_with (at_builtin; refine wp_app rfl _ _ 9 rfl (.slice A2 n2 c2) _ (l ++ [UInt8.ofNat 5] ++ leb s.size) rfl F2.out.own _ rfl s.size s.data.toList (src_str _ s) (by have := HL.out; have := hl.out; have := hsl.out; simp only [List.length_append, List.length_singleton]; unfold lim47; omega) ?_; intro v3 w3 g1 g2 g3; have F3 := hide (F2.out.push g1 g2 g3); have G3 := hide (Grows.push (Only.refl (fun _ => False) _) g2 g3); clear g1 g2 g3)
    go_ret
    refine ⟨_, rfl, ?_, Grows.lead HW.out ((G1.out.trans G2.out).trans G3.out)⟩
    have := F3.out
    rw [List.append_assoc, List.append_assoc] at this
    exact this

end Go.Proofs.Ytldhpbmcpmebaab.Cd

