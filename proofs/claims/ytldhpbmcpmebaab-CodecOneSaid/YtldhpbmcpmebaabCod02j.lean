/- The reference's value, walked. -/
import Derived.Test.YtldhpbmcpmebaabCod02d
import Derived.Test.YtldhpbmcpmebaabCod02i
import Derived.Deep.RegionLaw
set_option linter.unusedVariables false
set_option linter.unusedSimpArgs false
namespace Go.Proofs.Ytldhpbmcpmebaab.Cd
open Go.RowKit

set_option maxRecDepth 100000 in
set_option maxHeartbeats 2000000 in
theorem refvalue_any {w0 w : World} {b : Value} {l : List UInt8} (h : Fresh w0 w b l) (hl : l.length ≤ 1000000) (v : VD) (hv : v.valid = true) (hf : v.Fits) :
    Calls Try.prog 61 #[b, .agg #[.int .i64 v.kind, .int .i64 v.n, .string v.s]] w (PushEnd w0 w b (l ++ enc v)) := by
  obtain ⟨A, n, c, rfl⟩ := own_form' h.own
  have B := hide (And.intro (Box3.new w v) (show (Value.slice A n c).ownBlock ≠ some w.heap.size from fun e => by
    obtain ⟨cur, hc⟩ := owns_block h.own e
    have := heap_lt hc
    omega))
  have HW := hide ((Only.refl (fun _ => False) w).alloc (.cells #[.int .i64 v.kind, .int .i64 v.n, .string v.s] 24))
  have H := hide (h.grow ((Only.refl _ w).alloc (.cells #[.int .i64 v.kind, .int .i64 v.n, .string v.s] 24)))
  have hl := hide hl
  have hk := valid_kind hv
  have HF := hide hf
  obtain ⟨kind, num, s⟩ := v
  simp only at hk
  clear h hv hf
  rcases hk with rfl | rfl | ⟨rfl, hn⟩ | rfl | ⟨rfl, hs⟩
  · go_enter Try.func61, Try.ntmps61
    go_wp2_with (at_builtin; refine wp_app rfl _ _ 22 rfl (.slice A n c) _ (l) rfl (H.out.grow ((Only.refl _ _).alloc _)).own _ rfl 1 [UInt8.ofNat 1] (src_oneG _ _ (by first | rfl | simp) _ _ (by first | rfl | decide)) (by have := hl.out; simp only [List.length_singleton, List.length_append]; unfold lim47; omega) ?_; intro v1 w1 g1 g2 g3; have F1 := hide ((H.out.grow ((Only.refl _ _).alloc _)).push g1 g2 g3); have G1 := hide (Grows.push ((Only.refl (fun _ => False) _).alloc _) g2 g3); have B1 := hide (Box3.grows B.out.1 B.out.2 G1.out); obtain ⟨A1, n1, c1, rfl⟩ := own_form' g1; obtain ⟨x0, x1, x2⟩ := B1.out.1; clear g1 g2 g3)
    go_ret
    exact ⟨_, rfl, F1.out, Grows.lead HW.out G1.out⟩
  · go_enter Try.func61, Try.ntmps61
    go_wp2_with (at_builtin; refine wp_app rfl _ _ 22 rfl (.slice A n c) _ (l) rfl (H.out.grow ((Only.refl _ _).alloc _)).own _ rfl 1 [UInt8.ofNat 2] (src_oneG _ _ (by first | rfl | simp) _ _ (by first | rfl | decide)) (by have := hl.out; simp only [List.length_singleton, List.length_append]; unfold lim47; omega) ?_; intro v1 w1 g1 g2 g3; have F1 := hide ((H.out.grow ((Only.refl _ _).alloc _)).push g1 g2 g3); have G1 := hide (Grows.push ((Only.refl (fun _ => False) _).alloc _) g2 g3); have B1 := hide (Box3.grows B.out.1 B.out.2 G1.out); obtain ⟨A1, n1, c1, rfl⟩ := own_form' g1; obtain ⟨x0, x1, x2⟩ := B1.out.1; clear g1 g2 g3)
    go_ret
    exact ⟨_, rfl, F1.out, Grows.lead HW.out G1.out⟩
  · rcases hn with rfl | rfl
    · go_enter Try.func61, Try.ntmps61
      go_wp2_with (first
        | (at_builtin; refine wp_app rfl _ _ 22 rfl (.slice A n c) _ (l) rfl (H.out.grow ((Only.refl _ _).alloc _)).own _ rfl 1 [UInt8.ofNat 3] (src_oneG _ _ (by first | rfl | simp) _ _ (by first | rfl | decide)) (by have := hl.out; simp only [List.length_singleton, List.length_append]; unfold lim47; omega) ?_; intro v1 w1 g1 g2 g3; have F1 := hide ((H.out.grow ((Only.refl _ _).alloc _)).push g1 g2 g3); have G1 := hide (Grows.push ((Only.refl (fun _ => False) _).alloc _) g2 g3); have B1 := hide (Box3.grows B.out.1 B.out.2 G1.out); obtain ⟨A1, n1, c1, rfl⟩ := own_form' g1; obtain ⟨x0, x1, x2⟩ := B1.out.1; clear g1 g2 g3)
        | (at_builtin; refine wp_app rfl _ _ 22 rfl (.slice A1 n1 c1) _ (l ++ [UInt8.ofNat 3]) rfl (F1.out.grow ((Only.refl _ _).alloc _)).own _ rfl 1 [UInt8.ofNat 0] (src_oneG _ _ (by first | rfl | simp) _ _ (by first | rfl | decide)) (by have := hl.out; simp only [List.length_singleton, List.length_append]; unfold lim47; omega) ?_; intro v2 w2 g1 g2 g3; have F2 := hide ((F1.out.grow ((Only.refl _ _).alloc _)).push g1 g2 g3); have G2 := hide (Grows.push ((Only.refl (fun _ => False) _).alloc _) g2 g3); have B2 := hide (Box3.grows B1.out.1 B1.out.2 G2.out); obtain ⟨A2, n2, c2, rfl⟩ := own_form' g1; obtain ⟨x0, x1, x2⟩ := B2.out.1; clear g1 g2 g3))
      go_ret
      refine ⟨_, rfl, ?_, Grows.lead HW.out (G1.out.trans G2.out)⟩
      have := F2.out
      rw [List.append_assoc] at this
      exact this
    · go_enter Try.func61, Try.ntmps61
      go_wp2_with (first
        | (at_builtin; refine wp_app rfl _ _ 22 rfl (.slice A n c) _ (l) rfl (H.out.grow ((Only.refl _ _).alloc _)).own _ rfl 1 [UInt8.ofNat 3] (src_oneG _ _ (by first | rfl | simp) _ _ (by first | rfl | decide)) (by have := hl.out; simp only [List.length_singleton, List.length_append]; unfold lim47; omega) ?_; intro v1 w1 g1 g2 g3; have F1 := hide ((H.out.grow ((Only.refl _ _).alloc _)).push g1 g2 g3); have G1 := hide (Grows.push ((Only.refl (fun _ => False) _).alloc _) g2 g3); have B1 := hide (Box3.grows B.out.1 B.out.2 G1.out); obtain ⟨A1, n1, c1, rfl⟩ := own_form' g1; obtain ⟨x0, x1, x2⟩ := B1.out.1; clear g1 g2 g3)
        | (at_builtin; refine wp_app rfl _ _ 22 rfl (.slice A1 n1 c1) _ (l ++ [UInt8.ofNat 3]) rfl (F1.out.grow ((Only.refl _ _).alloc _)).own _ rfl 1 [UInt8.ofNat 1] (src_oneG _ _ (by first | rfl | simp) _ _ (by first | rfl | decide)) (by have := hl.out; simp only [List.length_singleton, List.length_append]; unfold lim47; omega) ?_; intro v2 w2 g1 g2 g3; have F2 := hide ((F1.out.grow ((Only.refl _ _).alloc _)).push g1 g2 g3); have G2 := hide (Grows.push ((Only.refl (fun _ => False) _).alloc _) g2 g3); have B2 := hide (Box3.grows B1.out.1 B1.out.2 G2.out); obtain ⟨A2, n2, c2, rfl⟩ := own_form' g1; obtain ⟨x0, x1, x2⟩ := B2.out.1; clear g1 g2 g3))
      go_ret
      refine ⟨_, rfl, ?_, Grows.lead HW.out (G1.out.trans G2.out)⟩
      have := F2.out
      rw [List.append_assoc] at this
      exact this
  · have hz0 := HF.out.n0
    have hz1 := HF.out.n1
    have HB := hide (fun x y => zig_bits num x y hz0 hz1)
    have HU := hide (fun (w2 : World) (v : Value) (l2 : List UInt8) (F : Fresh w0 w2 v l2) (h2 : l2.length ≤ 1000000000) => refuint_any F (zig num) (zig_lt hz0 hz1) h2)
    clear hz0 hz1
    have e : enc ⟨4, num, s⟩ = [UInt8.ofNat 4] ++ leb (zig num) := rfl
    rw [e]
    clear e
    generalize zig num = z at *
    go_enter Try.func61, Try.ntmps61
    go_wp2_with (at_builtin; refine wp_app rfl _ _ 22 rfl (.slice A n c) _ (l) rfl (H.out.grow ((Only.refl _ _).alloc _)).own _ rfl 1 [UInt8.ofNat 4] (src_oneG _ _ (by first | rfl | simp) _ _ (by first | rfl | decide)) (by have := hl.out; simp only [List.length_singleton, List.length_append]; unfold lim47; omega) ?_; intro v1 w1 g1 g2 g3; have F1 := hide ((H.out.grow ((Only.refl _ _).alloc _)).push g1 g2 g3); have G1 := hide (Grows.push ((Only.refl (fun _ => False) _).alloc _) g2 g3); have B1 := hide (Box3.grows B.out.1 B.out.2 G1.out); obtain ⟨A1, n1, c1, rfl⟩ := own_form' g1; obtain ⟨x0, x1, x2⟩ := B1.out.1; clear g1 g2 g3)
    rw [HB.out _ _ (by rw [IntKind.wrap_u64, IntKind.wrap_u64]; omega) (by rw [IntKind.wrap_u64])]
    refine (HU.out _ _ _ F1.out (by have := hl.out; rw [List.length_append]; simp; omega)).mono ?_
    rintro e w2 ⟨v, rfl, F, G⟩
    obtain ⟨A2, n2, c2, rfl⟩ := own_form' F.own
    have F2 := hide F
    have G2 := hide G
    clear F G
    go_wp2_with fail
    go_ret
    refine ⟨_, rfl, ?_, Grows.lead HW.out (G1.out.trans G2.out)⟩
    have := F2.out
    rw [List.append_assoc] at this
    exact this
  · have HU := hide (fun (w2 : World) (v : Value) (l2 : List UInt8) (F : Fresh w0 w2 v l2) (h2 : l2.length ≤ 1000000000) => refuint_any F s.size (by omega) h2)
    have hsw : (s.size : Int) = IntKind.u64.wrap (s.size : Int) := by rw [IntKind.wrap_u64]; omega
    rw [hsw] at HU
    clear hsw
    have HL := hide (leb_len10 (show s.size < 18446744073709551616 by omega))
    have hsl : Hid (s.data.toList.length = s.size) := by show _ = _; rw [Array.length_toList]; rfl
    have e : enc ⟨5, num, s⟩ = [UInt8.ofNat 5] ++ (leb s.size ++ s.data.toList) := rfl
    rw [e]
    clear e
    go_enter Try.func61, Try.ntmps61
    go_wp2_with (at_builtin; refine wp_app rfl _ _ 22 rfl (.slice A n c) _ (l) rfl (H.out.grow ((Only.refl _ _).alloc _)).own _ rfl 1 [UInt8.ofNat 5] (src_oneG _ _ (by first | rfl | simp) _ _ (by first | rfl | decide)) (by have := hl.out; simp only [List.length_singleton, List.length_append]; unfold lim47; omega) ?_; intro v1 w1 g1 g2 g3; have F1 := hide ((H.out.grow ((Only.refl _ _).alloc _)).push g1 g2 g3); have G1 := hide (Grows.push ((Only.refl (fun _ => False) _).alloc _) g2 g3); have B1 := hide (Box3.grows B.out.1 B.out.2 G1.out); obtain ⟨A1, n1, c1, rfl⟩ := own_form' g1; obtain ⟨x0, x1, x2⟩ := B1.out.1; clear g1 g2 g3)
    go_wp2
    go_region_law (first
      | (refine step_app rfl _ _ 9 rfl (.slice A2 n2 c2) _ (l ++ [UInt8.ofNat 5] ++ leb s.size) rfl F2.out.own _ rfl s.size s.data.toList (src_str _ s) (by have := HL.out; have := hl.out; have := hsl.out; simp only [List.length_append, List.length_singleton]; unfold lim47; omega) ?_; intro v3 w3 g1 g2 g3; obtain ⟨A3, n3, c3, rfl⟩ := own_form' g1; have F3 := hide (F2.out.push g1 g2 g3); have G3 := hide (Grows.push (Only.refl (fun _ => False) _) g2 g3); clear g1 g2 g3)
      | (go_simp; go_at_call 67; refine (HU.out w1.drew _ _ (F1.out.grow ((Only.refl _ _).drew)) (by have := hl.out; rw [List.length_append]; simp; omega)).mono ?_; rintro e w2 ⟨v, rfl, F, G⟩; obtain ⟨A2, n2, c2, rfl⟩ := own_form' F.own; have F2 := hide F; have G2 := hide (Grows.lead ((Only.refl (fun _ => False) w1).drew) G); have B2 := hide (Box3.grows B1.out.1 B1.out.2 G2.out); obtain ⟨k0, k1, k2⟩ := B2.out.1; clear F G))
    all_goals
      go_wp2
      go_ret
      refine ⟨_, rfl, ?_, Grows.lead HW.out ((G1.out.trans G2.out).trans G3.out)⟩
      have := F3.out
      rw [List.append_assoc, List.append_assoc] at this
      exact this

end Go.Proofs.Ytldhpbmcpmebaab.Cd
