/- The cases: New, Text, Number, Value, Any, Cells, walked: what they hand back is valid. -/
import Derived.Test.YtldhpbmcpmebaabRow02
set_option linter.unusedVariables false
set_option linter.unusedSimpArgs false
namespace Go.Proofs.Ytldhpbmcpmebaab.Cd
open Go.RowKit

theorem only_set3 (w : World) (p : Nat) (a b c : Value) : Only (fun x => x = p) w (((w.setCell ⟨p, 0, none⟩ a).setCell ⟨p, 1, none⟩ b).setCell ⟨p, 2, none⟩ c) :=
  (((Only.refl (fun x => x = p) w).setCell (p := ⟨p, 0, none⟩) (.inl rfl) a).setCell (p := ⟨p, 1, none⟩) (.inl rfl) b).setCell (p := ⟨p, 2, none⟩) (.inl rfl) c
/-- How a function of a case ends. -/
def CaseEnd (w : World) (g : Nat) (R : Nat → Prop) (P : Value → Prop) (e : Ending) (w' : World) : Prop := ∃ v, e = .returned v ∧ P v ∧ CaseIn w' g R ∧ Only (fun x => x = g) w w'

set_option maxRecDepth 100000 in
set_option maxHeartbeats 1000000 in
theorem new_any {w : World} (A : Option Addr) (n cap : Nat) (l : List UInt8) (hx : Rds w (.slice A n cap) (bytesV l)) (most : Nat) (hm1 : most ≤ 1000) :
    Calls Try.prog 12 #[.slice A n cap, .int .i64 most] w fun e w' => ∃ g, e = .returned (.pointer (some ⟨g, 0, none⟩)) ∧ w.heap.size ≤ g ∧ CaseIn w' g (fun x => w.heap.size ≤ x ∧ x < w'.heap.size) ∧ Only (fun _ => False) w w' := by
  obtain ⟨m, hm⟩ : ∃ m, m = min n most := ⟨_, rfl⟩
  have hn : n = l.length := by obtain ⟨A, c, e, _⟩ := hx; injection e with _ e _; rw [e, bytesV_length]
  have hnc : n ≤ cap := by obtain ⟨A, c, e, h, _⟩ := hx; injection e with _ e e2; rw [e, e2]; exact h
  have hmin : (if most < n then (most : Int) else n) = (m : Int) := by rw [hm]; split <;> omega
  have hmc : m ≤ cap := by omega
  have hm2 : m ≤ 1000 := by omega
  have R := hide (rds_take_n hx (show m ≤ l.length by omega))
  have hl : Hid ((l.take m).length = m) := by show _ = _; rw [List.length_take]; omega
  clear hx hm hn hm1
  go_enter Try.func12, Try.ntmps12
  go_wp2_with (at_builtin; go_loud (refine wp_app rfl _ _ 22 rfl (.slice none 0 0) 0 [] rfl (World.ownsRow_nil _ _ _ _) _ rfl _ (l.take m) (by have h := R.out.src Try.underlying22 (bytesV_one _); rw [bytesV_length, hl.out] at h; exact h) (by have := hl.out; simp; unfold lim47; omega) ?_; intro v2 w2 g1 g2 g3; have F2 := hide ((Fresh.nil w).push g1 g2 g3); obtain ⟨A2, n2, c2, rfl⟩ := own_form' g1; clear g1 g2 g3))
  go_ret
  have hn2 := own_n F2.out.own
  have hl2 := hl.out
  refine ⟨w2.heap.size, rfl, F2.out.only.size, ⟨⟨F2.out.only.size, by simp⟩, fun x hx => hx.2, A2, n2, c2, 0, l.take m, heap_alloc_new w2 _, F2.out.rds.only ((Only.refl (fun _ => False) w2).alloc _) fun _ _ => id, Nat.zero_le _, ?_, ?_, ?_⟩, F2.out.only.alloc _⟩
  · rw [hn2]; simp at hl2 ⊢; omega
  · intro e
    have := rds_lt F2.out.rds e
    omega
  · intro b hb
    have h1 := rds_lt F2.out.rds hb
    exact ⟨F2.out.new b (rdBlock_own hb), by simp; omega⟩

set_option maxRecDepth 100000 in
set_option maxHeartbeats 1000000 in
theorem text_any {w : World} {g : Nat} {R : Nat → Prop} (h : CaseIn w g R) :
    Calls Try.prog 40 #[.pointer (some ⟨g, 0, none⟩)] w (CaseEnd w g R fun v => ∃ s, v = .string s ∧ s.size ≤ 64) := by
  have HI := hide (int_any h 10 (by omega) (by omega))
  clear h
  go_enter Try.func40, Try.ntmps40
  go_wp2_with fail
  refine HI.out.mono ?_
  rintro e w2 ⟨r, rfl, h0, h1, hC, hO⟩
  have C := hide hC
  have O := hide hO
  clear hC hO HI
  have hr : r = 0 ∨ r = 1 ∨ r = 2 ∨ r = 3 ∨ r = 4 ∨ r = 5 ∨ r = 6 ∨ r = 7 ∨ r = 8 ∨ r = 9 := by omega
  rcases hr with rfl | rfl | rfl | rfl | rfl | rfl | rfl | rfl | rfl | rfl
  iterate 8
    · go_wp2
      go_ret
      exact ⟨_, rfl, ⟨_, rfl, by decide⟩, C.out, O.out⟩
  · go_wp2
    go_loopw [3, 4] (fun s i wr => ∃ (k : Nat) (b : ByteArray), k ≤ 64 ∧ i = .int .i64 k ∧ s = .string b ∧ Hid (b.size = k) ∧ wr = w2) (fun _ i _ => 64 - (intOf i).toNat)
    case atStart => exact ⟨0, ⟨#[]⟩, by omega, rfl, rfl, rfl, rfl⟩
    case round =>
      obtain ⟨k, b, hk, rfl, rfl, hb, rfl⟩ := hrel
      have hbs : b.size < 100 := by have := hb.out; omega
      by_cases hlt : (k : Int) < 64
      · go_wp2
        go_roundw
        case rel => exact ⟨k + 1, _, by omega, by go_num, rfl, by have := hb.out; show _ = _; rw [ByteArray.size_append, this]; rfl, trivial⟩
        case measure => simp [intOf]; omega
      · go_wp2
        go_ret
        exact ⟨_, rfl, ⟨_, rfl, by have := hb.out; omega⟩, C.out, O.out⟩
  · go_wp2
    go_loopw [3, 5] (fun s i wr => ∃ (k : Nat) (b : ByteArray), k ≤ 64 ∧ i = .int .i64 k ∧ s = .string b ∧ Hid (b.size = k) ∧ wr = w2) (fun _ i _ => 64 - (intOf i).toNat)
    case atStart => exact ⟨0, ⟨#[]⟩, by omega, rfl, rfl, rfl, rfl⟩
    case round =>
      obtain ⟨k, b, hk, rfl, rfl, hb, rfl⟩ := hrel
      have hbs : b.size < 100 := by have := hb.out; omega
      by_cases hlt : (k : Int) < 64
      · go_wp2
        go_roundw
        case rel => exact ⟨k + 1, _, by omega, by go_num, rfl, by have := hb.out; show _ = _; rw [ByteArray.size_append, this]; rfl, trivial⟩
        case measure => simp [intOf]; omega
      · go_wp2
        go_ret
        exact ⟨_, rfl, ⟨_, rfl, by have := hb.out; omega⟩, C.out, O.out⟩

set_option maxRecDepth 100000 in
theorem number_any {w : World} {g : Nat} {R : Nat → Prop} (h : CaseIn w g R) :
    Calls Try.prog 92 #[.pointer (some ⟨g, 0, none⟩)] w (CaseEnd w g R fun v => ∃ n, v = .int .i64 n ∧ -9223372036854775808 ≤ n ∧ n ≤ 9223372036854775807) := by
  have HI := hide (int_any h 12 (by omega) (by omega))
  clear h
  go_enter Try.func92, Try.ntmps92
  go_wp2_with fail
  refine HI.out.mono ?_
  rintro e w2 ⟨r, rfl, h0, h1, hC, hO⟩
  have C := hide hC
  have O := hide hO
  clear hC hO HI
  have hr : r = 0 ∨ r = 1 ∨ r = 2 ∨ r = 3 ∨ r = 4 ∨ r = 5 ∨ r = 6 ∨ r = 7 ∨ r = 8 ∨ r = 9 ∨ r = 10 ∨ r = 11 := by omega
  rcases hr with rfl | rfl | rfl | rfl | rfl | rfl | rfl | rfl | rfl | rfl | rfl | rfl
  all_goals
    go_wp2
    go_ret
    exact ⟨_, rfl, ⟨_, rfl, by decide, by decide⟩, C.out, O.out⟩

theorem valid_bool {r : Int} (h : r = 0 ∨ r = 1) : VD.valid ⟨3, r, ⟨#[]⟩⟩ = true := by
  rcases h with rfl | rfl <;> simp [VD.valid, bytes_toList]
theorem valid_int (r : Int) : VD.valid ⟨4, r, ⟨#[]⟩⟩ = true := by simp [VD.valid, bytes_toList]
theorem valid_text {s : ByteArray} (h : s.size ≤ 64) : VD.valid ⟨5, 0, s⟩ = true := by simp [VD.valid]; omega
theorem valid_mark {k : Int} (h : k = 1 ∨ k = 2) : VD.valid ⟨k, 0, ⟨#[]⟩⟩ = true := by
  rcases h with rfl | rfl <;> simp [VD.valid, bytes_toList]
/-- A valid value, as an aggregate. -/
def IsVal (v : Value) : Prop := ∃ x : VD, v = .agg #[.int .i64 x.kind, .int .i64 x.n, .string x.s] ∧ x.valid = true ∧ x.Fits

set_option maxRecDepth 100000 in
set_option maxHeartbeats 1000000 in
theorem value_any {w : World} {g : Nat} {R : Nat → Prop} (h : CaseIn w g R) (k : Int) (hk : k = 3 ∨ k = 4 ∨ k = 5) :
    Calls Try.prog 56 #[.pointer (some ⟨g, 0, none⟩), .int .i64 k] w (CaseEnd w g R IsVal) := by
  have ho : Only (fun _ => False) w (w.alloc (.cells #[.int .i64 0, .int .i64 0, .string ⟨#[]⟩] 24)) := (Only.refl _ w).alloc _
  have h' := h.grow ho
  have HI := hide (int_any h' 2 (by omega) (by omega))
  have HN := hide (number_any h')
  have HT := hide (text_any h')
  have hg := h.lt
  have HO := hide ho
  have hR : Hid (∀ x, R x → x < w.heap.size) := h.low
  clear h h' ho
  have hnew : ∀ {w2 : World} {S : Nat → Prop}, Only S (w.alloc (.cells #[.int .i64 0, .int .i64 0, .string ⟨#[]⟩] 24)) w2 → ¬ S w.heap.size → Box3 w2 w.heap.size vd0 ∧ (w2.frozen? ⟨w.heap.size, 0, none⟩ = false ∧ w2.frozen? ⟨w.heap.size, 1, none⟩ = false ∧ w2.frozen? ⟨w.heap.size, 2, none⟩ = false) := fun h h2 => by
    have hh := h.heap (heap_alloc_new w _) h2
    exact ⟨⟨cell_of_heap hh 0, cell_of_heap hh 1, cell_of_heap hh 2⟩, frozen_of_heap hh 0, frozen_of_heap hh 1, frozen_of_heap hh 2⟩
  rcases hk with rfl | rfl | rfl
  · go_enter Try.func56, Try.ntmps56
    go_wp2_with fail
    refine HI.out.mono ?_
    rintro e w2 ⟨r, rfl, h0, h1, hC, hO⟩
    have C := hide hC
    have O2 : Hid (Only (fun x => x = g) w w2) := (HO.out.mono fun _ _ h => h.elim).trans' hO
    obtain ⟨⟨x0, x1, x2⟩, y0, y1, y2⟩ := hnew hO (by omega)
    have hnw : Hid (w.heap.size < w2.heap.size) := by have := hO.size; simp at this; exact this
    clear hC hO HI HN HT hnew
    go_wp2
    refine bodyPost_ret (v := .agg #[.int .i64 3, .int .i64 r, .string ⟨#[]⟩]) (by simp [results, Try.results56, go_sem, x0, x1, x2]) rfl ⟨_, rfl, ⟨⟨3, r, ⟨#[]⟩⟩, rfl, valid_bool (by omega), ⟨by simp; omega, by simp; omega⟩⟩, ?_, ?_⟩
    · exact C.out.only (only_set3 w2 w.heap.size _ _ _) (fun x hx e => by have := hR.out x hx; omega)
    · exact O2.out.trans (only_set3 w2 w.heap.size _ _ _) fun x hx e => by omega
  · go_enter Try.func56, Try.ntmps56
    go_wp2_with fail
    refine HN.out.mono ?_
    rintro e w2 ⟨_, rfl, ⟨r, rfl, h0, h1⟩, hC, hO⟩
    have C := hide hC
    have O2 : Hid (Only (fun x => x = g) w w2) := (HO.out.mono fun _ _ h => h.elim).trans' hO
    obtain ⟨⟨x0, x1, x2⟩, y0, y1, y2⟩ := hnew hO (by omega)
    have hnw : Hid (w.heap.size < w2.heap.size) := by have := hO.size; simp at this; exact this
    clear hC hO HI HN HT hnew
    go_wp2
    refine bodyPost_ret (v := .agg #[.int .i64 4, .int .i64 r, .string ⟨#[]⟩]) (by simp [results, Try.results56, go_sem, x0, x1, x2]) rfl ⟨_, rfl, ⟨⟨4, r, ⟨#[]⟩⟩, rfl, valid_int r, ⟨h0, h1⟩⟩, ?_, ?_⟩
    · exact C.out.only (only_set3 w2 w.heap.size _ _ _) (fun x hx e => by have := hR.out x hx; omega)
    · exact O2.out.trans (only_set3 w2 w.heap.size _ _ _) fun x hx e => by omega
  · go_enter Try.func56, Try.ntmps56
    go_wp2_with fail
    refine HT.out.mono ?_
    rintro e w2 ⟨_, rfl, ⟨s, rfl, h0⟩, hC, hO⟩
    have C := hide hC
    have O2 : Hid (Only (fun x => x = g) w w2) := (HO.out.mono fun _ _ h => h.elim).trans' hO
    obtain ⟨⟨x0, x1, x2⟩, y0, y1, y2⟩ := hnew hO (by omega)
    have hnw : Hid (w.heap.size < w2.heap.size) := by have := hO.size; simp at this; exact this
    clear hC hO HI HN HT hnew
    go_wp2
    refine bodyPost_ret (v := .agg #[.int .i64 5, .int .i64 0, .string s]) (by simp [results, Try.results56, go_sem, x0, x1, x2]) rfl ⟨_, rfl, ⟨⟨5, 0, s⟩, rfl, valid_text h0, ⟨by simp, by simp⟩⟩, ?_, ?_⟩
    · exact C.out.only (only_set3 w2 w.heap.size _ _ _) (fun x hx e => by have := hR.out x hx; omega)
    · exact O2.out.trans (only_set3 w2 w.heap.size _ _ _) fun x hx e => by omega

set_option maxRecDepth 100000 in
set_option maxHeartbeats 1000000 in
theorem any_any {w : World} {g : Nat} {R : Nat → Prop} (h : CaseIn w g R) :
    Calls Try.prog 14 #[.pointer (some ⟨g, 0, none⟩)] w (CaseEnd w g R IsVal) := by
  have ho : Only (fun _ => False) w (w.alloc (.cells #[.int .i64 0, .int .i64 0, .string ⟨#[]⟩] 24)) := (Only.refl _ w).alloc _
  have HI := hide (int_any (h.grow ho) 5 (by omega) (by omega))
  have hg := h.lt
  have HO := hide ho
  have hR : Hid (∀ x, R x → x < w.heap.size) := h.low
  have hnew : ∀ (w2 : World) (S : Nat → Prop), Only S (w.alloc (.cells #[.int .i64 0, .int .i64 0, .string ⟨#[]⟩] 24)) w2 → ¬ S w.heap.size → Box3 w2 w.heap.size vd0 ∧ (w2.frozen? ⟨w.heap.size, 0, none⟩ = false ∧ w2.frozen? ⟨w.heap.size, 1, none⟩ = false ∧ w2.frozen? ⟨w.heap.size, 2, none⟩ = false) := fun w2 S h h2 => by
    have hh := h.heap (heap_alloc_new w _) h2
    exact ⟨⟨cell_of_heap hh 0, cell_of_heap hh 1, cell_of_heap hh 2⟩, frozen_of_heap hh 0, frozen_of_heap hh 1, frozen_of_heap hh 2⟩
  have HN := hide hnew
  clear h ho hnew
  go_enter Try.func14, Try.ntmps14
  go_wp2_with fail
  refine HI.out.mono ?_
  rintro e w2 ⟨r, rfl, h0, h1, hC, hO⟩
  have C := hide hC
  have O1 := hide hO
  have O2 : Hid (Only (fun x => x = g) w w2) := (HO.out.mono fun _ _ h => h.elim).trans' hO
  have hnw : Hid (w.heap.size < w2.heap.size) := by have := hO.size; simp at this; exact this
  have hr : r = 0 ∨ r = 1 ∨ r = 2 ∨ r = 3 ∨ r = 4 := by omega
  clear hC hO HI
  rcases hr with rfl | rfl | rfl | rfl | rfl
  iterate 2
    · obtain ⟨⟨x0, x1, x2⟩, y0, y1, y2⟩ := HN.out _ _ O1.out (by omega)
      go_wp2
      refine bodyPost_ret (v := .agg #[.int .i64 _, .int .i64 0, .string ⟨#[]⟩]) (by simp [results, Try.results14, go_sem, x0, x1, x2]; rfl) rfl ⟨_, rfl, ⟨⟨_, 0, ⟨#[]⟩⟩, rfl, valid_mark (by first | exact .inl rfl | exact .inr rfl), ⟨by simp, by simp⟩⟩, ?_, ?_⟩
      · exact C.out.only (only_set3 w2 w.heap.size _ _ _) (fun x hx e => by have := hR.out x hx; omega)
      · exact O2.out.trans (only_set3 w2 w.heap.size _ _ _) fun x hx e => by omega
  all_goals
    go_wp2_with fail
    refine (value_any C.out _ (by omega)).mono ?_
    rintro e w3 ⟨_, rfl, ⟨⟨k, n, s⟩, rfl, hv, hf⟩, hC, hO⟩
    have C3 := hide hC
    have O3 := hide (O1.out.trans' hO)
    have O4 := hide (O2.out.trans' hO)
    have hnw2 : Hid (w.heap.size < w3.heap.size) := Nat.lt_of_lt_of_le hnw.out hO.size
    have HV := hide hv
    have HF := hide hf
    obtain ⟨⟨x0, x1, x2⟩, y0, y1, y2⟩ := HN.out _ _ O3.out (by omega)
    clear hC hO hv hf
    go_wp2
    refine bodyPost_ret (v := .agg #[.int .i64 k, .int .i64 n, .string s]) (by simp [results, Try.results14, go_sem, x0, x1, x2]) rfl ⟨_, rfl, ⟨⟨k, n, s⟩, rfl, HV.out, HF.out⟩, ?_, ?_⟩
    · exact C3.out.only (only_set3 w3 w.heap.size _ _ _) (fun x hx e => by have := hR.out x hx; omega)
    · exact O4.out.trans (only_set3 w3 w.heap.size _ _ _) fun x hx e => by omega

end Go.Proofs.Ytldhpbmcpmebaab.Cd
