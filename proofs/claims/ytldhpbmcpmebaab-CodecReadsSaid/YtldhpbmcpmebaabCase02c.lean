/- Cells of a case, and AppendValue, walked. -/
import Derived.Test.YtldhpbmcpmebaabCase02b
import Derived.Test.YtldhpbmcpmebaabRd02
set_option linter.unusedVariables false
set_option linter.unusedSimpArgs false
namespace Go.Proofs.Ytldhpbmcpmebaab.Cd
open Go.RowKit

theorem info_val3 : ∃ i z, Try.prog.info? 24 = some i ∧ i.zero = some z ∧ z.cells.size = 3 ∧ i.size = 3 ∧ i.bytes ≤ 64 := by
  have h := info_val
  cases hi : Try.prog.info? 24 with
  | none => rw [hi] at h; cases h
  | some i =>
    rw [hi] at h
    simp at h
    obtain ⟨h1, h2, h3⟩ := h
    obtain ⟨z, hz, hz2⟩ := h1
    exact ⟨i, z, rfl, hz, hz2, h2, h3⟩
/-- append of one value onto an owned row. -/
theorem wp_row {w : World} {ops : Array Oper} {rest : List Oper} {o : Oper} {a : Act} {Q : Exit → Act → World → Prop} (hgd : o.guard = none) (s x : Operand)
    (ho : o.op = .call { callee := .builtin .append, args := #[s, x], argTypes := #[26, 26] })
    (v : Value) (n : Nat) (vs : List VD) (hsv : a.eval s = v) (hown : w.ownsRow 0 24 3 v n (rowV vs)) (xv : Value) (hxv : a.eval x = xv) (y : VD) (hs : Src Try.prog 3 26 xv 1 (vdV y) w) (hn : n ≤ 100000)
    (h : ∀ v' w', w'.ownsRow 0 24 3 v' (n + 1) (rowV (vs ++ [y])) → w.grownBy w' v.ownBlock → (v'.ownBlock = v.ownBlock ∨ ∃ k, v'.ownBlock = some k ∧ w.heap.size ≤ k) → wpList Try.prog ops Q rest (a.put o.dst v') w') : wpList Try.prog ops Q (o :: rest) a w := by
  obtain ⟨i, z, hi, hz, hzs, hsize, hb⟩ := info_val3
  refine wpList_append_3 hgd s x 26 26 ho 0 24 i z Try.underlying26 hi hz hsize hzs v n (rowV vs) hsv hown xv hxv 1 (vdV y) hs (by simp only [maxLen]; omega) ?_ (Nat.zero_le _) fun v' w' h1 h2 h3 => h v' w' ?_ h2 h3
  · have : (n + 1) * i.bytes ≤ 100001 * 64 := Nat.mul_le_mul (by omega) hb
    omega
  · rw [rowV_append, rowV_one]
    exact h1
theorem src_val (w : World) (g : Nat) (hg : g = w.heap.size) (y : VD) : Src Try.prog 3 26 (.slice (some ⟨g, 0, none⟩) 1 1) 1 (vdV y) (w.alloc (.cells #[.int .i64 y.kind, .int .i64 y.n, .string y.s] 24)) := by
  subst hg
  refine Src.ofSlice _ Try.underlying26 _ 1 1 _ rfl (fun j u hj => ?_) (fun u hu => ?_)
  · rw [addr_eta _ rfl]
    simp only [Nat.zero_add]
    rw [cell_of_heap (heap_alloc_new w _)]
    simpa [vdV] using hj
  · simp [vdV] at hu
    rcases hu with rfl | rfl | rfl <;> rfl

/-- A row of one's own, made since w1. -/
structure FreshRow (S : Nat → Prop) (w1 w2 : World) (v : Value) (vs : List VD) : Prop where
  own : w2.ownsRow 0 24 3 v vs.length (rowV vs)
  only : Only S w1 w2
  new : ∀ k, v.ownBlock = some k → w1.heap.size ≤ k
theorem FreshRow.push {S : Nat → Prop} {w1 w2 w3 : World} {v v' : Value} {vs : List VD} {y : VD} (h : FreshRow S w1 w2 v vs) (g1 : w3.ownsRow 0 24 3 v' (vs.length + 1) (rowV (vs ++ [y]))) (g2 : w2.grownBy w3 v.ownBlock)
    (g3 : v'.ownBlock = v.ownBlock ∨ ∃ k, v'.ownBlock = some k ∧ w2.heap.size ≤ k) : FreshRow S w1 w3 v' (vs ++ [y]) := by
  refine ⟨by rw [List.length_append]; exact g1, h.only.grown g2 fun k hk => .inr (h.new k hk), fun k hk => ?_⟩
  rcases g3 with g3 | ⟨k', g3, h'⟩
  · exact h.new k (by rw [← g3, hk])
  · rw [hk] at g3
    injection g3 with g3
    have := h.only.size
    omega
theorem FreshRow.grow {S : Nat → Prop} {w1 w2 w3 : World} {v : Value} {vs : List VD} (h : FreshRow S w1 w2 v vs) (ho : Only S w2 w3) (hS : ∀ k, S k → k < w1.heap.size) : FreshRow S w1 w3 v vs :=
  ⟨ho.owns h.own fun k hk hs => by have := h.new k hk; have := hS k hs; omega, h.only.trans' ho, h.new⟩
theorem FreshRow.nil (S : Nat → Prop) (w : World) : FreshRow S w w (.slice none 0 0) [] := ⟨World.ownsRow_nil _ _ _ _, Only.refl _ _, fun k hk => by cases hk⟩
theorem FreshRow.rd {S : Nat → Prop} {w1 w2 : World} {A : Option Addr} {m c : Nat} {vs : List VD} (h : FreshRow S w1 w2 (.slice A m c) vs) (hv : AllOk vs) : m = vs.length ∧ RdRow w2 A vs.length vs (fun k => (Value.slice A m c).ownBlock = some k) :=
  rdRow_own h.own fun i hi => by
    rw [List.getD_eq_getElem?_getD, List.getElem?_eq_getElem hi]
    exact (hv _ (List.getElem_mem hi)).2
theorem FreshRow.lt {S : Nat → Prop} {w1 w2 : World} {v : Value} {vs : List VD} (h : FreshRow S w1 w2 v vs) {k : Nat} (hk : v.ownBlock = some k) : k < w2.heap.size := by
  obtain ⟨cur, hc⟩ := owns_block h.own hk
  exact heap_lt hc

set_option maxRecDepth 100000 in
set_option maxHeartbeats 1000000 in
theorem cells_any {w : World} {g : Nat} {R : Nat → Prop} (h : CaseIn w g R) (n : Nat) (hn : n ≤ 100) :
    Calls Try.prog 20 #[.pointer (some ⟨g, 0, none⟩), .int .i64 n] w fun e w' => ∃ v vs, e = .returned v ∧ vs.length = n ∧ AllOk vs ∧ FreshRow (fun x => x = g) w w' v vs ∧ CaseIn w' g R := by
  have H := hide h
  have hg := hide h.lt
  have hR : Hid (∀ x, R x → x < w.heap.size) := h.low
  clear h
  go_enter Try.func20, Try.ntmps20
  go_wp2
  go_loopw [1, 5] (fun i v wr => ∃ (k : Nat) (vs : List VD), k ≤ n ∧ i = .int .i64 k ∧ vs.length = n - k ∧ AllOk vs ∧ FreshRow (fun x => x = g) w wr v vs ∧ CaseIn wr g R) (fun i _ _ => (intOf i).toNat)
  case atStart => exact ⟨n, [], Nat.le_refl _, rfl, by simp, (fun v hv => by cases hv), FreshRow.nil _ _, H.out⟩
  case round =>
    obtain ⟨k, vs, hk, rfl, hl, hv, hF, hC⟩ := hrel
    obtain ⟨A1, n1, c1, rfl⟩ := own_form' hF.own
    have hkI : (0 : Int) < k ∨ k = 0 := by omega
    rcases hkI with hkI | rfl
    · have HL := hide hl
      have HV := hide hv
      have HF := hide hF
      have HN := hide (any_any hC)
      clear hl hv hF hC
      go_wp2_with fail
      refine HN.out.mono ?_
      rintro e w2 ⟨_, rfl, ⟨⟨kd, nm, s⟩, rfl, hv, hf⟩, hC, hO⟩
      have C2 := hide hC
      have F2 := hide (HF.out.grow hO (fun x hx => by have := hg.out; omega))
      have V2 : Hid (AllOk (vs ++ [⟨kd, nm, s⟩])) := fun u hu => by
        rcases List.mem_append.1 hu with hu | hu
        · exact HV.out u hu
        · simp at hu; subst hu; exact ⟨hv, hf⟩
      clear hC hO hv hf
      go_wp2_with (at_builtin; refine wp_row rfl _ _ rfl (.slice A1 n1 c1) _ vs rfl (F2.out.grow ((Only.refl _ _).alloc _) (fun x hx => by have := hg.out; omega)).own _ rfl ⟨kd, nm, s⟩ (src_val w2 _ (by first | rfl | simp) _) (by have := HL.out; omega) ?_; intro v3 w3 g1 g2 g3; have F3 := hide ((F2.out.grow ((Only.refl _ _).alloc _) (fun x hx => by have := hg.out; omega)).push g1 g2 g3); have C3 := hide ((C2.out.grow ((Only.refl _ _).alloc _)).only (S := fun x => (Value.slice A1 n1 c1).ownBlock = some x) ((Only.refl _ _).grown g2 fun y hy => .inl hy) (fun x hx e => by have h1 := F2.out.new x e; have h2 := hR.out x hx; omega)); clear g1 g2 g3)
      go_roundw
      case rel => exact ⟨k - 1, _, by omega, by go_num, by rw [List.length_append, HL.out]; simp; omega, V2.out, F3.out, C3.out⟩
      case measure => simp [intOf]; omega
    · have HL := hide hl
      have HV := hide hv
      have HF := hide hF
      have HC := hide hC
      clear hl hv hF hC
      go_wp2
      go_ret
      exact ⟨_, vs, rfl, by have := HL.out; omega, HV.out, HF.out, HC.out⟩

end Go.Proofs.Ytldhpbmcpmebaab.Cd
