/- The law's cut, and its begun, walked. -/
import Derived.Test.YtcedenhfchcgiaaJn10
set_option linter.unusedVariables false
set_option linter.unusedSimpArgs false
namespace Go.Proofs.Ytcedenhfchcgiaa.Jn
open Go.RowKit Go.Shelf

/-- What cut leaves of records. -/
def cutR (recs : List (List UInt8)) : List (List UInt8) := (recs.take 8).map (·.take 300)
theorem cutR_len (recs : List (List UInt8)) : (cutR recs).length ≤ 8 := by unfold cutR; rw [List.length_map, List.length_take]; omega
theorem cutR_get (recs : List (List UInt8)) (i : Nat) : (cutR recs).getD i [] = if i < 8 then (recs.getD i []).take 300 else [] := by
  unfold cutR
  rw [List.getD_eq_getElem?_getD, List.getElem?_map, List.getElem?_take]
  split
  · rw [List.getD_eq_getElem?_getD]
    cases recs[i]? <;> rfl
  · rfl
theorem cutR_small (recs : List (List UInt8)) (i : Nat) : ((cutR recs).getD i []).length ≤ 300 := by
  rw [cutR_get]
  split
  · rw [List.length_take]; omega
  · simp

theorem rds_len {w : World} {A : Option Addr} {n c : Nat} {l : List UInt8} (h : Rds w (.slice A n c) (bytesV l)) : n = l.length ∧ n ≤ c := by
  obtain ⟨A', c', e, h1, _⟩ := h
  injection e with e1 e2 e3
  rw [bytesV_length] at e2 h1
  omega
/-- A list of slices that was made since w; the slices are read. -/
structure CutV (w wr : World) (v : Value) (recs : List (List UInt8)) : Prop where
  own : ∃ Vs : List Value, wr.ownsRow 0 23 1 v recs.length Vs ∧ ∀ i, i < recs.length → ∃ V, Vs[i]? = some V ∧ Rds w V (bytesV (recs.getD i []))
  only : Only (fun _ => False) w wr
  new : ∀ k, v.ownBlock = some k → w.heap.size ≤ k
theorem CutV.grow {w wr w2 : World} {v : Value} {recs : List (List UInt8)} (h : CutV w wr v recs) (ho : Only (fun _ => False) wr w2) : CutV w w2 v recs := by
  obtain ⟨Vs, h1, h2⟩ := h.own
  exact ⟨⟨Vs, ho.owns h1 fun _ _ => id, h2⟩, h.only.trans' ho, h.new⟩
theorem CutV.push {w wr w2 : World} {v v' V : Value} {recs : List (List UInt8)} {l : List UInt8} {Vs : List Value} (h : CutV w wr v recs) (hV : Rds w V (bytesV l)) (h1 : wr.ownsRow 0 23 1 v recs.length Vs) (h2 : ∀ i, i < recs.length → ∃ V, Vs[i]? = some V ∧ Rds w V (bytesV (recs.getD i [])))
    (g1 : w2.ownsRow 0 23 1 v' (recs.length + 1) (Vs ++ [V])) (g2 : wr.grownBy w2 v.ownBlock) (g3 : v'.ownBlock = v.ownBlock ∨ ∃ k, v'.ownBlock = some k ∧ wr.heap.size ≤ k) : CutV w w2 v' (recs ++ [l]) := by
  have hl : Vs.length = recs.length := by have := h1.1; omega
  refine ⟨⟨_, by rw [List.length_append]; exact g1, fun i hi => ?_⟩, h.only.grown g2 fun k hk => .inr (h.new k hk), fun k hk => ?_⟩
  · by_cases e : i < recs.length
    · obtain ⟨X, e1, e2⟩ := h2 i e
      refine ⟨X, by rw [List.getElem?_append_left (by omega)]; exact e1, ?_⟩
      rw [List.getD_eq_getElem?_getD, List.getElem?_append_left e, ← List.getD_eq_getElem?_getD]
      exact e2
    · have e2 : i = recs.length := by rw [List.length_append] at hi; simp at hi; omega
      subst e2
      refine ⟨V, by rw [List.getElem?_append_right (by omega), hl]; simp, ?_⟩
      rw [List.getD_eq_getElem?_getD, List.getElem?_append_right (Nat.le_refl _)]
      simp only [Nat.sub_self, List.getElem?_cons_zero, Option.getD_some]
      exact hV
  · rcases g3 with g3 | ⟨y, g3, hy⟩
    · exact h.new k (by rw [← g3, hk])
    · rw [hk] at g3; injection g3 with g3
      have := h.only.size
      omega
theorem CutV.rd {w wr : World} {A : Option Addr} {m c : Nat} {recs : List (List UInt8)} (h : CutV w wr (.slice A m c) recs) : m = recs.length ∧ RdRecs wr A recs.length recs (fun k => k < wr.heap.size) := by
  obtain ⟨Vs, h1, h2⟩ := h.own
  refine ⟨Cd.own_n h1, rfl, fun i hi => ?_⟩
  obtain ⟨V, e, g1⟩ := h2 i hi
  have g1' := g1.only h.only fun _ _ => id
  rcases h1.2 with ⟨h3, h4⟩ | ⟨g, cap, cur, hv, hb, hh, hn, hc, hs, ht⟩
  · omega
  · injection hv with e1 e2 e3
    subst e1
    have hc := h1.cells (g := g) rfl i V e
    rw [addr_eta _ rfl] at hc
    exact ⟨g, 0, V, rfl, heap_lt hh, hc, g1', fun k hk => Cd.rds_lt g1' hk⟩

/-- The world in which cut's loop begins. -/
def cutW (w : World) (A : Option Addr) (n c : Nat) : World :=
  ((w.alloc (.cells #[.int .i64 0, .int .i64 0, .slice none 0 0, .slice A n c, .slice none 0 0] 26)).alloc (.cells #[.int .i64 0, .int .i64 0, .slice none 0 0, .slice none 0 0, .slice none 0 0] 26)).alloc (.cells #[] 23)
theorem cutW_facts (w : World) (A : Option Addr) (n c : Nat) :
    (cutW w A n c).heap[w.heap.size]? = some (.cells #[.int .i64 0, .int .i64 0, .slice none 0 0, .slice A n c, .slice none 0 0] 26 (0, 0)) ∧
    (cutW w A n c).heap[w.heap.size + 1]? = some (.cells #[.int .i64 0, .int .i64 0, .slice none 0 0, .slice none 0 0, .slice none 0 0] 26 (0, 0)) ∧
    (cutW w A n c).heap[w.heap.size + 1 + 1]? = some (.cells #[] 23 (0, 0)) := by
  unfold cutW World.alloc
  simp only [Array.getElem?_push, Array.size_push]
  refine ⟨?_, ?_, ?_⟩ <;> simp <;> first | omega | (rw [if_neg (by omega), if_neg (by omega)]; simp) | (rw [if_neg (by omega)]; simp) | skip
theorem cutW_only (w : World) (A : Option Addr) (n c : Nat) : Only (fun _ => False) w (cutW w A n c) := (((Only.refl _ w).alloc _).alloc _).alloc _
theorem cutV_start (w : World) (A : Option Addr) (n c : Nat) : CutV w (cutW w A n c) (.slice (some ⟨w.heap.size + 1 + 1, 0, none⟩) 0 0) [] := by
  obtain ⟨_, _, h3⟩ := cutW_facts w A n c
  refine ⟨⟨[], ⟨rfl, .inr ⟨w.heap.size + 1 + 1, 0, #[], rfl, Nat.zero_le _, h3, Nat.le_refl _, by simp [maxLen], by simp, by simp⟩⟩, fun i hi => by cases hi⟩, cutW_only w A n c, fun k hk => ?_⟩
  cases hk
  show _ ≤ w.heap.size + 1 + 1
  omega
theorem tags_sc : (23 : TypeId) ≠ 26 := by decide
/-- The two boxes of cut. -/
def CutBox (w wr : World) (A : Option Addr) (n c : Nat) : Prop :=
  wr.heap[w.heap.size]? = some (.cells #[.int .i64 0, .int .i64 0, .slice none 0 0, .slice A n c, .slice none 0 0] 26 (0, 0)) ∧
  wr.heap[w.heap.size + 1]? = some (.cells #[.int .i64 0, .int .i64 0, .slice none 0 0, .slice none 0 0, .slice none 0 0] 26 (0, 0))

/-- How cut ends. -/
def CutEnd (w : World) (recs : List (List UInt8)) (e : Ending) (w' : World) : Prop :=
  ∃ A c, e = .returned (.agg #[.int .i64 0, .int .i64 0, .slice none 0 0, .slice A (cutR recs).length c, .slice none 0 0]) ∧ RdRecs w' A (cutR recs).length (cutR recs) (fun k => k < w'.heap.size) ∧ Only (fun _ => False) w w' ∧ (cutR recs).length ≤ c

set_option maxRecDepth 100000 in
set_option maxHeartbeats 2000000 in
theorem cut_any {w : World} (A : Option Addr) (n c : Nat) (recs : List (List UInt8)) {T : Nat → Prop} (h : RdRecs w A n recs T) (hnc : n ≤ c) (hn : n ≤ 9223372036854775807) :
    Calls Try.prog 6 #[.agg #[.int .i64 0, .int .i64 0, .slice none 0 0, .slice A n c, .slice none 0 0]] w (CutEnd w recs) := by
  have HX := hide h
  have HL := hide h.len
  obtain ⟨m, hm⟩ : ∃ m, m = min n 8 := ⟨_, rfl⟩
  have hmin : (if (8 : Int) < (n : Int) then (8 : Int) else n) = (m : Int) := by rw [hm]; split <;> omega
  have hmc : m ≤ c := by omega
  have hm8 : m ≤ 8 := by omega
  have HM := hide hm
  clear h hm
  go_enter Try.func6, Try.ntmps6
  have hF := cutW_facts w A n c
  have hC := hide (cutV_start w A n c)
  obtain ⟨w0, hw0⟩ : ∃ w0, cutW w A n c = w0 := ⟨_, rfl⟩
  have HW0 : Hid (((w.alloc (.cells #[.int .i64 0, .int .i64 0, .slice none 0 0, .slice A n c, .slice none 0 0] 26)).alloc (.cells #[.int .i64 0, .int .i64 0, .slice none 0 0, .slice none 0 0, .slice none 0 0] 26)).alloc (.cells #[] 23) = w0) := hw0
  rw [hw0] at hF hC
  have HB : Hid (CutBox w w0 A n c) := ⟨hF.1, hF.2.1⟩
  clear hF hw0
  go_wp2
  rw [HW0.out]
  go_loopw [3, 23] (fun v i wr => ∃ k : Nat, k ≤ m ∧ i = .int .i64 k ∧ Hid (CutV w wr v ((recs.take k).map (·.take 300))) ∧ Hid (CutBox w wr A n c)) (fun _ i _ => m - (intOf i).toNat)
  case atStart => exact ⟨0, by omega, rfl, hC, HB⟩
  case round =>
    obtain ⟨k, hk, rfl, HF, HB⟩ := hrel
    obtain ⟨Vs, hV1, hV2⟩ := HF.out.own
    obtain ⟨VA, vm, vc, rfl⟩ := own_form' hV1
    have hkl : ((recs.take k).map (·.take 300)).length = k := by rw [List.length_map, List.length_take]; have := HL.out; have := HM.out; omega
    have HKL := hide hkl
    have HV1 := hide hV1
    have HV2 := hide hV2
    clear hV1 hV2 hkl
    by_cases hlt : k < m
    · have hk' : k < recs.length := by have := HL.out; have := HM.out; omega
      have HK := hide hk'
      obtain ⟨ab, ao, V, rfl, hT, hcell, hV, -⟩ := HX.out.at_ k hk'
      have HVr := hide hV
      have hc2 := HF.out.only.cell hcell id
      obtain ⟨UA, un, uc, rfl⟩ := Cd.rds_form hV
      have hun : un = (recs.getD k []).length ∧ un ≤ uc := rds_len hV
      obtain ⟨q, hq⟩ : ∃ q, q = min un 300 := ⟨_, rfl⟩
      have hqmin : (if (300 : Int) < (un : Int) then (300 : Int) else un) = (q : Int) := by rw [hq]; split <;> omega
      have hquc : q ≤ uc := by omega
      have HQ : Hid (Rds w (.slice UA q uc) (bytesV ((recs.getD k []).take 300))) := by
        have h1 := Cd.rds_take_n hV (m := q) (by omega)
        have e : (recs.getD k []).take 300 = (recs.getD k []).take q := by
          rw [hq, hun.1]
          by_cases h : (recs.getD k []).length ≤ 300
          · rw [Nat.min_eq_left h, List.take_of_length_le h, List.take_length]
          · rw [Nat.min_eq_right (by omega)]
        rw [e]
        exact h1
      have P2 := hide ((Only.refl (fun _ => False) wr).alloc (.cells #[.slice UA q uc] 23))
      clear hT hV hun hq hcell hk'
      go_wp2_with (at_builtin; go_loud (refine wp_rec rfl _ _ rfl (.slice VA vm vc) _ Vs rfl (P2.out.owns HV1.out fun _ _ => id) _ rfl (.slice UA q uc) (src_rec wr _ (by first | rfl | simp) _ _ _) (by rw [HKL.out]; omega) ?_; intro v5 w5 g1 g2 g3; have HC5 := hide ((HF.out.grow P2.out).push HQ.out (P2.out.owns HV1.out fun _ _ => id) HV2.out g1 g2 g3); have HB5 : Hid (CutBox w w5 _ n c) := (show Only (fun x => (Value.slice VA vm vc).ownBlock = some x) wr w5 from (P2.out.mono fun _ _ h => h.elim).grown g2 fun x hx => .inl hx) |> fun ho => ⟨ho.heap HB.out.1 (own_ne HB.out.1 HV1.out tags_sc), ho.heap HB.out.2 (own_ne HB.out.2 HV1.out tags_sc)⟩; clear g1 g2 g3))
      go_roundw
      case rel =>
        refine ⟨k + 1, by omega, by go_num, hide ?_, HB5⟩
        rw [take_succ_recs HK.out, List.map_append]
        exact HC5.out
      case measure => simp [intOf]; omega
    · obtain rfl : k = m := by omega
      have e1 : Hid ((recs.take k).map (·.take 300) = cutR recs) := by
        show _ = _
        unfold cutR
        have h1 := HL.out
        have h2 := HM.out
        by_cases h8 : recs.length ≤ 8
        · rw [h2, h1, Nat.min_eq_left h8, List.take_length, List.take_of_length_le h8]
        · rw [h2, h1, Nat.min_eq_right (by omega)]
      rw [e1.out] at HF
      obtain ⟨hr1, hr2⟩ := HF.out.rd
      subst hr1
      have HRd := hide hr2
      have b0 := cell_of_heap HB.out.1 0
      have b1 := cell_of_heap HB.out.1 1
      have b2 := cell_of_heap HB.out.1 2
      have b3 := cell_of_heap HB.out.1 3
      have b4 := cell_of_heap HB.out.1 4
      have y3 := frozen_of_heap HB.out.1 3
      have d0 := cell_of_heap HB.out.2 0
      have d1 := cell_of_heap HB.out.2 1
      have d2 := cell_of_heap HB.out.2 2
      have d3 := cell_of_heap HB.out.2 3
      have d4 := cell_of_heap HB.out.2 4
      have z0 := frozen_of_heap HB.out.2 0
      have z1 := frozen_of_heap HB.out.2 1
      have z2 := frozen_of_heap HB.out.2 2
      have z3 := frozen_of_heap HB.out.2 3
      have z4 := frozen_of_heap HB.out.2 4
      simp at b0 b1 b2 b3 b4 d0 d1 d2 d3 d4
      clear hr2
      go_wp2
      have p1 := only_one wr w.heap.size 3 (.slice VA (cutR recs).length vc)
      have hb2 := p1.heap HB.out.2 (by omega)
      obtain ⟨W1, hW1⟩ : ∃ W1, wr.setCell ⟨w.heap.size, 3, none⟩ (.slice VA (cutR recs).length vc) = W1 := ⟨_, rfl⟩
      rw [hW1] at p1 hb2 ⊢
      have h5 := heap_setCell_at (heap_setCell_at (heap_setCell_at (heap_setCell_at (heap_setCell_at hb2 0 (.int .i64 0)) 1 (.int .i64 0)) 2 (.slice none 0 0)) 3 (.slice VA (cutR recs).length vc)) 4 (.slice none 0 0)
      have p2 : Only (fun x => x = w.heap.size + 1) W1 (((((W1.setCell ⟨w.heap.size + 1, 0, none⟩ (.int .i64 0)).setCell ⟨w.heap.size + 1, 1, none⟩ (.int .i64 0)).setCell ⟨w.heap.size + 1, 2, none⟩ (.slice none 0 0)).setCell ⟨w.heap.size + 1, 3, none⟩ (.slice VA (cutR recs).length vc)).setCell ⟨w.heap.size + 1, 4, none⟩ (.slice none 0 0)) :=
        ((((only_one W1 (w.heap.size + 1) 0 (.int .i64 0)).setCell (p := ⟨w.heap.size + 1, 1, none⟩) (.inl rfl) _).setCell (p := ⟨w.heap.size + 1, 2, none⟩) (.inl rfl) _).setCell (p := ⟨w.heap.size + 1, 3, none⟩) (.inl rfl) _).setCell (p := ⟨w.heap.size + 1, 4, none⟩) (.inl rfl) _
      obtain ⟨W2, hW2⟩ : ∃ W2, ((((W1.setCell ⟨w.heap.size + 1, 0, none⟩ (.int .i64 0)).setCell ⟨w.heap.size + 1, 1, none⟩ (.int .i64 0)).setCell ⟨w.heap.size + 1, 2, none⟩ (.slice none 0 0)).setCell ⟨w.heap.size + 1, 3, none⟩ (.slice VA (cutR recs).length vc)).setCell ⟨w.heap.size + 1, 4, none⟩ (.slice none 0 0) = W2 := ⟨_, rfl⟩
      rw [hW2] at h5 p2 ⊢
      have q0 := cell_of_heap h5 0
      have q1 := cell_of_heap h5 1
      have q2 := cell_of_heap h5 2
      have q3 := cell_of_heap h5 3
      have q4 := cell_of_heap h5 4
      simp at q0 q1 q2 q3 q4
      have hO : Only (fun x => x = w.heap.size ∨ x = w.heap.size + 1) wr W2 := (p1.mono fun x _ h => .inl h).trans' (p2.mono fun x _ h => .inr h)
      refine bodyPost_ret (v := .agg #[.int .i64 0, .int .i64 0, .slice none 0 0, .slice VA (cutR recs).length vc, .slice none 0 0]) (by simp [results, Try.results6, go_sem, q0, q1, q2, q3, q4]) rfl ⟨VA, vc, rfl, ?_, HF.out.only.trans hO (fun x hx e => by omega), by obtain ⟨Vs', hV1', _⟩ := HF.out.own; obtain ⟨_, _, e, he⟩ := Cd.own_form_le hV1'; injection e with e1 e2 e3; omega⟩
      obtain ⟨Vs', hV1', hV2'⟩ := HF.out.own
      have hF2 : CutV w W2 (.slice VA (cutR recs).length vc) (cutR recs) := ⟨⟨Vs', hO.owns hV1' fun x hx e => by
        rcases e with e | e
        · subst e; exact own_ne HB.out.1 hV1' tags_sc hx
        · subst e; exact own_ne HB.out.2 hV1' tags_sc hx, hV2'⟩, HF.out.only.trans hO fun x hx e => by omega, HF.out.new⟩
      exact hF2.rd.2

end Go.Proofs.Ytcedenhfchcgiaa.Jn
