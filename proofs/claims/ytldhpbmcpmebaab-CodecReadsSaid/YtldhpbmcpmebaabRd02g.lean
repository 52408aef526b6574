/- codec.Row: the reading of a row with its recover, walked. -/
import Derived.Test.YtldhpbmcpmebaabRd02f
import Derived.Test.YtldhpbmcpmebaabCase02c
import Derived.Deep.RegionWith
set_option linter.unusedVariables false
set_option linter.unusedSimpArgs false
namespace Go.Proofs.Ytldhpbmcpmebaab.Cd
open Go.RowKit

theorem catch_idleRow (p1 p2 p3 : Value) (w : World) :
    CallsD Try.prog 77 #[p1, p2, p3] .returning w fun e u' w' => e = .returned (.tuple #[]) ∧ u' = .returning ∧ w' = w := by
  refine callsD_of_wpS Try.func77 rfl fun c₀ cs hu => ?_
  apply wpS_seq
  apply wpS_region
  simp [wpOpsS, go_sem, recoverD, hu, Try.ntmps77, Exit.thenS]
  refine wpS_of_wp ?_
  go_wp2
  cases c₀
  simp_all [bodyPostS, results, Try.results77]

set_option maxRecDepth 100000 in
theorem catch_panickingRow (g1 g2 g3 : Nat) (c : Int) (older : List PanicEntry) (w : World) (y0 x2 x3 : Value) (t1 t2 t3 : TypeId) (h1 : w.heap[g1]? = some (.cells #[y0] t1 (0, 0))) (h2 : w.heap[g2]? = some (.cells #[x2] t2 (0, 0))) (h3 : w.heap[g3]? = some (.cells #[x3] t3 (0, 0)))
    (n12 : g1 ≠ g2) (n13 : g1 ≠ g3) (n23 : g2 ≠ g3) :
    CallsD Try.prog 77 #[.pointer (some ⟨g1, 0, none⟩), .pointer (some ⟨g2, 0, none⟩), .pointer (some ⟨g3, 0, none⟩)] (.panicking ({ v := .iface 126 (.agg #[.int .i64 c]), recovered := false } :: older)) w fun e u' w' =>
      e = .returned (.tuple #[]) ∧ u' = .panicking ({ v := .iface 126 (.agg #[.int .i64 c]), recovered := true } :: older) ∧ ∃ w2, Only (fun _ => False) w w2 ∧ w' = ((w2.setCell ⟨g1, 0, none⟩ (.slice none 0 0)).setCell ⟨g2, 0, none⟩ (.int .i64 0)).setCell ⟨g3, 0, none⟩ (.int .i64 c) := by
  refine callsD_of_wpS Try.func77 rfl fun c₀ cs hu => ?_
  apply wpS_seq
  apply wpS_region
  simp [wpOpsS, go_sem, recoverD, hu, Try.ntmps77, Exit.thenS]
  refine wpS_of_wp ?_
  have HD := hide (fun w2 (ho : Only (fun _ => False) w w2) => (show (w2.cell? ⟨g1, 0, none⟩ = some y0 ∧ w2.cell? ⟨g2, 0, none⟩ = some x2 ∧ w2.cell? ⟨g3, 0, none⟩ = some x3) ∧ w2.frozen? ⟨g1, 0, none⟩ = false ∧ w2.frozen? ⟨g2, 0, none⟩ = false ∧ w2.frozen? ⟨g3, 0, none⟩ = false from
    ⟨⟨cell_of_heap (ho.heap h1 id) 0, cell_of_heap (ho.heap h2 id) 0, cell_of_heap (ho.heap h3 id) 0⟩, frozen_of_heap (ho.heap h1 id) 0, frozen_of_heap (ho.heap h2 id) 0, frozen_of_heap (ho.heap h3 id) 0⟩))
  have m12 := n12.symm
  have m13 := n13.symm
  have m23 := n23.symm
  clear h1 h2 h3
  go_wp2_with (go_at_call 69; refine (caught_any c _).mono ?_; rintro e w2 ⟨rfl, hO⟩; obtain ⟨⟨q1_0, q2, q3⟩, z1_0, z2, z3⟩ := HD.out _ hO; have HO := hide hO; clear hO)
  simp [bodyPostS, results, Try.results77]
  exact ⟨_, HO.out, rfl⟩

set_option maxRecDepth 100000 in
set_option maxHeartbeats 1000000 in
theorem Row_bad {w : World} (x : Value) (l : List UInt8) (k : Int) (hx : Rds w x (bytesV l)) (hl : l.length ≤ 9223372036854775000) (hk : k < 0 ∨ (l.length : Int) < k) :
    Calls Try.prog 34 #[x, .int .i64 k] w fun e w' => e = .returned (.tuple #[.slice none 0 0, .int .i64 0, .int .i64 1]) ∧ Only (fun _ => False) w w' := by
  obtain ⟨A, n, c, rfl⟩ := rds_form hx
  have ho := readW_only w #[.slice none 0 0] 26 A n c k
  have hW := readW_heap w #[.slice none 0 0] 26 A n c k
  have hD : Dec (readW w #[.slice none 0 0] 26 A n c k) (w.heap.size + 1 + 1 + 1) (.slice A n c) k := hW.2.2.2
  have HB := hide (begin_bad hD (hx.only ho fun _ _ => id) hk)
  have hmf : ∀ (fn : Fn) (first cap : Array Value) (w : World), (Instr.makeFunc fn first cap).run Try.prog w = .ok (.func fn first cap) w := fun _ _ _ _ => rfl
  have HO := hide ho
  have HW := hide hW
  clear hx hk hD ho hW
  go_enter_defers Try.func34, Try.ntmps34
  go_wp2_with fail
  refine HB.out.mono ?_
  rintro e w2 ⟨⟨q, rfl⟩, rfl⟩
  have V1 := hide ((HW.out.1 : ((readW w #[.slice none 0 0] 26 A n c k).drewN q).heap[w.heap.size]? = _))
  have V2 := hide ((HW.out.2.1 : ((readW w #[.slice none 0 0] 26 A n c k).drewN q).heap[w.heap.size + 1]? = _))
  have V3 := hide ((HW.out.2.2.1 : ((readW w #[.slice none 0 0] 26 A n c k).drewN q).heap[w.heap.size + 1 + 1]? = _))
  refine leaves_cons (f := 77) (args := #[.pointer (some ⟨w.heap.size, 0, none⟩), .pointer (some ⟨w.heap.size + 1, 0, none⟩), .pointer (some ⟨w.heap.size + 1 + 1, 0, none⟩)]) (by simp) (by simp [go_sem]) ?_
  refine (catch_panickingRow w.heap.size (w.heap.size + 1) (w.heap.size + 1 + 1) 1 [] ((readW w #[.slice none 0 0] 26 A n c k).drewN q) (.slice none 0 0) (.int .i64 0) (.int .i64 0) 26 3 31 V1.out V2.out V3.out (by omega) (by omega) (by omega)).mono ?_
  rintro e u' w'' ⟨rfl, rfl, w3, h3, rfl⟩
  have c1_0 := cell_of_heap (h3.heap V1.out id) 0
  have c2 := cell_of_heap (h3.heap V2.out id) 0
  have c3 := cell_of_heap (h3.heap V3.out id) 0
  simp [Leaves, settle, results, Try.results34, go_sem, c1_0, c2, c3]
  have E := fun (a d e : Value) => (((((HO.out.drewN q).trans' h3).setCell (p := ⟨w.heap.size, 0, none⟩) (.inr (by simp)) a).setCell (p := ⟨w.heap.size + 1, 0, none⟩) (.inr (by simp)) d).setCell (p := ⟨w.heap.size + 1 + 1, 0, none⟩) (.inr (by simp; omega)) e)
  first
    | exact E _ _ _
    | exact ⟨rfl, E _ _ _⟩
    | exact ⟨by decide, E _ _ _⟩
    | trace_state

/-- append of one value onto an owned row, as a step of a region that draws. -/
theorem step_row {w : World} {ops : Array Oper} {o : Oper} {a : Act} {K : Act → World → Prop} {Q : Exit → Act → World → Prop} {E : Prop} (hgd : o.guard = none) (s x : Operand)
    (ho : o.op = .call { callee := .builtin .append, args := #[s, x], argTypes := #[26, 26] })
    (v : Value) (n : Nat) (vs : List VD) (hsv : a.eval s = v) (hown : w.ownsRow 0 24 3 v n (rowV vs)) (xv : Value) (hxv : a.eval x = xv) (y : VD) (hs : Src Try.prog 3 26 xv 1 (vdV y) w) (hn : n ≤ 100000)
    (h : ∀ v' w', w'.ownsRow 0 24 3 v' (n + 1) (rowV (vs ++ [y])) → w.grownBy w' v.ownBlock → (v'.ownBlock = v.ownBlock ∨ ∃ k, v'.ownBlock = some k ∧ w.heap.size ≤ k) → K (a.put o.dst v') w') :
    if Region.wanted o (yielded ops a.tmps) = true then Oper.wp Try.prog o a w K Q else E := by
  have hw : Region.wanted o (yielded ops a.tmps) = true := by simp [Region.wanted, hgd]
  rw [if_pos hw]
  obtain ⟨i, z, hi, hz, hzs, hsize, hb⟩ := info_val3
  obtain ⟨v', w', hr, h2, h3, h4, _⟩ := run_append_3 (P := Try.prog) w 0 26 26 o.type 24 i z Try.underlying26 hi hz hsize hzs v n (rowV vs) hown xv 1 (vdV y) hs (by simp only [maxLen]; omega) (by
    have : (n + 1) * i.bytes ≤ 100001 * 64 := Nat.mul_le_mul (by omega) hb
    omega) (Nat.zero_le _)
  unfold Oper.wp execOp
  simp only [ho, resolve, invoke, builtin, Sem.run_bind, Sem.run_pure, Result.andThen_ok, List.map_toArray, List.map_cons, List.map_nil, hsv, hxv, hr]
  exact h v' w' (by rw [rowV_append, rowV_one]; exact h2) h3 h4

/-- What has been read so far, with what is still to come. -/
def comb (vs : List VD) (q : List VD × Nat × Int) : List VD × Nat × Int := if q.2.2 = 0 then (vs ++ q.1, q.2.1, 0) else ([], 0, q.2.2)
theorem comb_ok {l : List UInt8} {vs : List VD} {f at_ next : Nat} {v : VD} (h : rdVal l at_ = (v, next, 0)) : comb vs (rdCells l (f + 1) at_) = comb (vs ++ [v]) (rdCells l f next) := by
  rw [rdCells, h]
  simp only [if_pos]
  unfold comb
  by_cases hc : (rdCells l f next).2.2 = 0
  · rw [if_pos hc]; simp [hc]
  · rw [if_neg hc]; simp [hc]
theorem comb_bad {l : List UInt8} {vs : List VD} {f at_ : Nat} (h : (rdVal l at_).2.2 ≠ 0) : comb vs (rdCells l (f + 1) at_) = ([], 0, (rdVal l at_).2.2) := by
  rw [rdCells, if_neg h]
  unfold comb
  rw [if_neg h]
theorem comb_end (l : List UInt8) (vs : List VD) (at_ : Nat) : comb vs (rdCells l 0 at_) = (vs, at_, 0) := by simp [comb, rdCells]
theorem comb_start (q : List VD × Nat × Int) (h : q.2.2 ≠ 0 → q.1 = [] ∧ q.2.1 = 0) : comb [] q = q := by
  unfold comb
  by_cases hc : q.2.2 = 0
  · rw [if_pos hc]; obtain ⟨a, b, c⟩ := q; simp only at hc; subst hc; rfl
  · rw [if_neg hc]; obtain ⟨a, b, c⟩ := q; obtain ⟨h1, h2⟩ := h hc; simp only at h1 h2; subst h1 h2; rfl
theorem rdCells_zero (l : List UInt8) : ∀ k at_, (rdCells l k at_).2.2 ≠ 0 → (rdCells l k at_).1 = [] ∧ (rdCells l k at_).2.1 = 0 := by
  intro k
  induction k with
  | zero => intro at_ h; exact absurd rfl h
  | succ k ih =>
    intro at_ h
    rw [rdCells] at h ⊢
    by_cases h1 : (rdVal l at_).2.2 = 0
    · rw [if_pos h1] at h ⊢
      by_cases h2 : (rdCells l k (rdVal l at_).2.1).2.2 = 0
      · rw [if_pos h2] at h; exact absurd rfl h
      · rw [if_neg h2]; exact ⟨rfl, rfl⟩
    · rw [if_neg h1]; exact ⟨rfl, rfl⟩

/-- How a function ends that hands back a row, a place and a code. -/
def RowEnd (w : World) (r : List VD × Nat × Int) (e : Ending) (w' : World) : Prop := ∃ v, e = .returned (.tuple #[v, .int .i64 r.2.1, .int .i64 r.2.2]) ∧ FreshRow (fun _ => False) w w' v r.1

set_option maxRecDepth 100000 in
set_option maxHeartbeats 2000000 in
theorem Row_in {w : World} (x : Value) (l : List UInt8) (k : Nat) (hx : Rds w x (bytesV l)) (hxw : ∀ b, rdBlock x = some b → b < w.heap.size) (hl : l.length ≤ 9223372036854775000) (hk : k ≤ l.length) :
    Calls Try.prog 34 #[x, .int .i64 k] w (RowEnd w (rdRow l k)) := by
  obtain ⟨rt, hrt⟩ : ∃ r, rdRow l k = r := ⟨_, rfl⟩
  rw [hrt]
  unfold rdRow at hrt
  obtain ⟨A, n, c, rfl⟩ := rds_form hx
  have ho := readW_only w #[.slice none 0 0] 26 A n c k
  have hW := readW_heap w #[.slice none 0 0] 26 A n c k
  have hsz : (readW w #[.slice none 0 0] 26 A n c k).heap.size = w.heap.size + 1 + 1 + 1 + 1 := by simp [readW]
  have hD : Dec (readW w #[.slice none 0 0] 26 A n c k) (w.heap.size + 1 + 1 + 1) (.slice A n c) k := hW.2.2.2
  have HX := hide (hx.only ho fun _ _ => id)
  have HB := hide (begin_ok hD HX.out (by omega) (by omega))
  have HXW := hide hxw
  have HU := hide (fun q => uint_any (w := (readW w #[.slice none 0 0] 26 A n c k).drewN q) (g := w.heap.size + 1 + 1 + 1) hD (HX.out.only ((Only.refl (fun _ => False) _).drewN q) fun _ _ => id) (fun e => by have := hxw _ e; omega) hl hk)
  have hmf : ∀ (fn : Fn) (first cap : Array Value) (w : World), (Instr.makeFunc fn first cap).run Try.prog w = .ok (.func fn first cap) w := fun _ _ _ _ => rfl
  have HO := hide ho
  have HW := hide hW
  have HSZ := hide hsz
  obtain ⟨⟨rn, rx, rc⟩, hr⟩ : ∃ r, rdUint l k = r := ⟨_, rfl⟩
  have HI : Hid (rc = 0 → rx ≤ l.length) := fun hc => by subst hc; exact (rdUint_inv hr).2.2.1
  rw [hr] at HU hrt
  simp only at hrt
  have HT := hide hrt
  clear hx hk hD ho hW hr hxw hrt hsz
  go_enter_defers Try.func34, Try.ntmps34
  go_wp2_with fail
  refine HB.out.mono ?_
  rintro e w2 ⟨⟨q, rfl⟩, rfl⟩
  go_wp2_with fail
  refine (HU.out q).mono ?_
  rintro e w2 ⟨hO2, hE⟩
  have O2 : Hid (Only (fun y => y = w.heap.size + 1 + 1 + 1) (readW w #[.slice none 0 0] 26 A n c k) w2) := ((Only.refl _ _).drewN q).trans' hO2
  have O3 : Hid (Only (fun _ => False) w w2) := HO.out.trans O2.out fun y hy e => by omega
  clear hO2
  rcases hE with ⟨h0, rfl, hD2⟩ | ⟨h0, rfl⟩
  · try simp only at h0
    subst h0
    have ht := HT.out
    rw [if_pos rfl] at ht
    by_cases h12 : 12 < rn
    · rw [if_pos h12] at ht
      subst ht
      have h12I : (12 : Int) < rn := by omega
      go_wp2_with (go_at_call 75; refine (stop_any _ _ _).mono ?_; rintro e w3 ⟨rfl, rfl⟩)
      obtain ⟨W1, W2, W3, W4⟩ := HW.out
      have V1 := hide (O2.out.heap W1 (by omega))
      have V2 := hide (O2.out.heap W2 (by omega))
      have V3 := hide (O2.out.heap W3 (by omega))
      clear W1 W2 W3 W4
      refine leaves_cons (f := 77) (args := #[.pointer (some ⟨w.heap.size, 0, none⟩), .pointer (some ⟨w.heap.size + 1, 0, none⟩), .pointer (some ⟨w.heap.size + 1 + 1, 0, none⟩)]) (by simp) (by simp [go_sem]) ?_
      refine (catch_panickingRow w.heap.size (w.heap.size + 1) (w.heap.size + 1 + 1) 2 [] _ (.slice none 0 0) (.int .i64 0) (.int .i64 0) 26 3 31 V1.out V2.out V3.out (by omega) (by omega) (by omega)).mono ?_
      rintro e u' w'' ⟨rfl, rfl, w3, h3, rfl⟩
      have c1 := cell_of_heap (h3.heap V1.out id) 0
      have c2 := cell_of_heap (h3.heap V2.out id) 0
      have c3 := cell_of_heap (h3.heap V3.out id) 0
      simp [Leaves, settle, results, Try.results34, go_sem, c1, c2, c3, RowEnd]
      exact (FreshRow.nil (fun _ => False) w).grow ((((O3.out.trans' h3).setCell (p := ⟨w.heap.size, 0, none⟩) (.inr (by simp)) _).setCell (p := ⟨w.heap.size + 1, 0, none⟩) (.inr (by simp)) _).setCell (p := ⟨w.heap.size + 1 + 1, 0, none⟩) (.inr (by simp; omega)) _) (fun _ h => h.elim)
    · rw [if_neg h12] at ht
      have h12I : ¬ (12 : Int) < rn := by omega
      have hrnw : IntKind.i64.wrap (rn : Int) = rn := by rw [IntKind.wrap_i64]; omega
      obtain ⟨W1, W2, W3, W4⟩ := HW.out
      obtain ⟨S, hS⟩ : ∃ S : Nat → Prop, S = fun y => y = w.heap.size ∨ y = w.heap.size + 1 + 1 + 1 := ⟨_, rfl⟩
      have HS := hide hS
      have hSlt : Hid (∀ y, S y → y < w.heap.size + 1 + 1 + 1 + 1) := fun y hy => by rw [hS] at hy; omega
      have hrx := HI.out rfl
      have V1 := hide (O2.out.heap W1 (by omega))
      have D2 := hide hD2
      have F0 : Hid (FreshRow S (readW w #[.slice none 0 0] 26 A n c k) w2 (.slice none 0 0) []) := ⟨World.ownsRow_nil _ _ _ _, O2.out.mono fun y _ e => by rw [HS.out]; exact .inr e, fun k hk => by cases hk⟩
      have ht2 : Hid (comb [] (rdCells l rn rx) = rt) := by rw [← ht]; exact comb_start _ (rdCells_zero l rn rx)
      clear W1 W2 W3 W4 hS hD2 ht HT HI
      go_wp2
      go_loopw [9] (fun i wr => ∃ (j at_ : Nat) (v : Value) (vs : List VD), i = .int .i64 j ∧ j ≤ rn ∧ vs.length = j ∧ at_ ≤ l.length ∧ Hid (wr.heap[w.heap.size]? = some (.cells #[v] 26 (0, 0))) ∧ Hid (FreshRow S (readW w #[.slice none 0 0] 26 A n c k) wr v vs) ∧ Hid (Dec wr (w.heap.size + 1 + 1 + 1) (.slice A n c) at_) ∧ Hid (comb vs (rdCells l (rn - j) at_) = rt)) (fun i _ => rn - (intOf i).toNat)
      case atStart => exact ⟨0, rx, _, [], rfl, Nat.zero_le _, rfl, hrx, V1, F0, D2, ht2⟩
      case round =>
        obtain ⟨j, at_, v, vs, rfl, hj, hvl, hat, HB1, HF, HD, HT⟩ := hrel
        obtain ⟨A1, n1, c1, rfl⟩ := own_form' HF.out.own
        have hvlH := hide hvl
        clear hvl
        have cr := cell_of_heap HB1.out 0
        have fr := frozen_of_heap HB1.out 0
        simp at cr
        have HXr := hide (HX.out.only HF.out.only fun y hy e => by
          have h1 := HXW.out y hy
          rw [HS.out] at e
          omega)
        by_cases hlt : j < rn
        · obtain ⟨f, hf⟩ : ∃ f, rn - j = f + 1 := ⟨rn - j - 1, by omega⟩
          have HVal := hide (fun (W : World) (ho : Only (fun _ => False) wr W) => dvalue_any (w := W) (g := w.heap.size + 1 + 1 + 1) (ho.heap HD.out id) (HXr.out.only ho fun _ _ => id) (fun e => by have := HXW.out _ e; omega) hl hat)
          obtain ⟨⟨⟨vk, vn, vst⟩, vx, vc⟩, hv⟩ : ∃ r, rdVal l at_ = r := ⟨_, rfl⟩
          rw [hv] at HVal
          simp only [aggV] at HVal
          have hvH := hide hv
          clear hv
          by_cases hvc : vc = 0
          · subst hvc
            have hI := rdVal_inv hvH.out
            have hvx : vx ≤ l.length := hI.2.2.2.1
            clear hI
            have hcomb := comb_ok (vs := vs) (f := f) hvH.out
            rw [← hf, HT.out] at hcomb
            have HC := hide hcomb
            have hg0 : Hid (∀ y, (Value.slice A1 n1 c1).ownBlock = some y → y ≠ w.heap.size ∧ y ≠ w.heap.size + 1 + 1 + 1) := fun y hy => by
              have := HF.out.new y hy
              rw [HSZ.out] at this
              omega
            have hgw : Hid (w.heap.size < wr.heap.size) := heap_lt HB1.out
            have hB4 : Hid (∀ W, Only (fun y => y = w.heap.size + 1 + 1 + 1) wr W → W.heap[w.heap.size]? = some (.cells #[.slice A1 n1 c1] 26 (0, 0))) := fun W ho => ho.heap HB1.out (by omega)
            clear hcomb
            go_wp2
            go_region_law (first
              | (refine step_row rfl _ _ rfl (.slice A1 n1 c1) vs.length vs rfl ((HF.out.grow ((O4.out.mono fun y _ e => by rw [HS.out]; exact .inr e).alloc _) (fun y hy => by rw [HSZ.out]; exact hSlt.out y hy)).own) _ rfl ⟨vk, vn, vst⟩ (src_val w4 _ (by first | rfl | simp) _) (by have := hvlH.out; omega) ?_; intro v5 w5 g1 g2 g3; obtain ⟨A5, n5, c5, rfl⟩ := own_form' g1; have F5 := hide ((HF.out.grow ((O4.out.mono fun y _ e => by rw [HS.out]; exact .inr e).alloc _) (fun y hy => by rw [HSZ.out]; exact hSlt.out y hy)).push g1 g2 g3); have B5 : Hid (w5.heap[w.heap.size]? = some (.cells #[.slice A1 n1 c1] 26 (0, 0)) ∧ Dec w5 (w.heap.size + 1 + 1 + 1) (.slice A n c) vx) := (by { have hh : Only (fun y => (Value.slice A1 n1 c1).ownBlock = some y) w4 w5 := ((Only.refl _ w4).alloc _).grown g2 fun y hy => .inl hy; exact ⟨hh.heap (hB4.out w4 O4.out) (fun e => (hg0.out _ e).1 rfl), hh.heap D4.out (fun e => (hg0.out _ e).2 rfl)⟩ }); have K5 : Hid (w5.cell? ⟨w.heap.size, 0, none⟩ = some (.slice A1 n1 c1) ∧ w5.frozen? ⟨w.heap.size, 0, none⟩ = false) := ⟨by have h := cell_of_heap B5.out.1 0; simpa using h, frozen_of_heap B5.out.1 0⟩; obtain ⟨k5a, k5b⟩ := K5.out; clear g1 g2 g3)
              | (go_simp; go_at_call 78; refine (HVal.out wr.drew ((Only.refl _ _).drew)).mono ?_; rintro e w4 ⟨hO4, hE4⟩; obtain ⟨-, rfl, hD4⟩ := hE4.resolve_right (fun h => h.1 rfl); have O4 : Hid (Only (fun y => y = w.heap.size + 1 + 1 + 1) wr w4) := ((Only.refl _ _).drew).trans' hO4; have D4 := hide hD4; have K4 : Hid (w4.cell? ⟨w.heap.size, 0, none⟩ = some (.slice A1 n1 c1) ∧ w4.frozen? ⟨w.heap.size, 0, none⟩ = false) := ⟨by have h := cell_of_heap (hB4.out w4 O4.out) 0; simpa using h, frozen_of_heap (hB4.out w4 O4.out) 0⟩; have K4a : Hid (∀ o, (w4.alloc o).cell? ⟨w.heap.size, 0, none⟩ = some (.slice A1 n1 c1) ∧ (w4.alloc o).frozen? ⟨w.heap.size, 0, none⟩ = false) := (fun o => ⟨by have h := cell_of_heap (hB4.out (w4.alloc o) (O4.out.alloc o)) 0; simpa using h, frozen_of_heap (hB4.out (w4.alloc o) (O4.out.alloc o)) 0⟩); obtain ⟨k4a, k4b⟩ := K4.out; have k4c := (fun o => (K4a.out o).1); clear hO4 hD4))
            all_goals
              go_wp2
              go_roundw
              case rel =>
                refine ⟨j + 1, vx, _, vs ++ [⟨vk, vn, vst⟩], by go_num, by omega, by rw [List.length_append, hvlH.out]; rfl, hvx, ?_, hide (F5.out.grow (only_one w5 w.heap.size 0 _ |>.mono fun y _ e => by rw [HS.out]; exact .inl e) (fun y hy => by rw [HSZ.out]; exact hSlt.out y hy)), hide ((only_one w5 w.heap.size 0 _).heap B5.out.2 (fun e => by omega)), by show _ = _; rw [show rn - (j + 1) = f by omega]; exact HC.out.symm⟩
                show _ = _
                rw [heap_setCell_at B5.out.1]
                rfl
              case measure => simp [intOf]; omega
          · have HE := HVal.out wr.drew ((Only.refl _ _).drew)
            have HVb := hide (HE.mono (R' := fun e w' => e = stopE vc ∧ Only (fun y => y = w.heap.size + 1 + 1 + 1) wr.drew w') fun e w' h => ⟨(h.2.resolve_left fun h2 => hvc h2.1).2, h.1⟩)
            clear HE
            have hcomb := comb_bad (l := l) (vs := vs) (f := f) (at_ := at_) (by rw [hvH.out]; exact hvc)
            rw [← hf, HT.out, hvH.out] at hcomb
            simp only at hcomb
            subst hcomb
            obtain ⟨W1, W2, W3, W4⟩ := HW.out
            have hOr : Hid (Only (fun y => y = w.heap.size ∨ y = w.heap.size + 1 + 1 + 1) (readW w #[.slice none 0 0] 26 A n c k) wr) := by rw [← HS.out]; exact HF.out.only
            have hOw : Hid (Only (fun _ => False) w wr) := HO.out.trans hOr.out fun y hy e => by omega
            have hgw : Hid (w.heap.size < wr.heap.size) := heap_lt HB1.out
            have V1r := hide HB1.out
            have V2r := hide (hOr.out.heap W2 (by omega))
            have V3r := hide (hOr.out.heap W3 (by omega))
            clear W1 W2 W3 W4
            go_wp2
            refine wp_region_any (by kernel_rfl) ?_
            try (change wpAny _ _ _ _ _ _ _ (World.drew _))
            refine wpAny_ready (rs := [0, 1]) (by kernel_rfl) (by simp) ?_
            refine AllReady.cons rfl (fun K hK => ?_) ?_
            · go_simp
              refine hK _ _ ?_
              clear hK K
              refine wpAny_ready (rs := [1]) (by kernel_rfl) (by simp) ?_
              refine AllReady.cons rfl (fun K hK => ?_) AllReady.nil
              go_simp
              go_at_call 78
              refine HVb.out.mono ?_
              rintro e w4 ⟨rfl, hO4⟩
              have O4 := hide hO4
              clear hO4
              have V1 := hide (O4.out.heap V1r.out (by omega))
              have V2 := hide (O4.out.heap V2r.out (by omega))
              have V3 := hide (O4.out.heap V3r.out (by omega))
              have O5 : Hid (Only (fun _ => False) w w4) := hOw.out.drew.trans O4.out fun y hy e => by omega
              refine leaves_cons (f := 77) (args := #[.pointer (some ⟨w.heap.size, 0, none⟩), .pointer (some ⟨w.heap.size + 1, 0, none⟩), .pointer (some ⟨w.heap.size + 1 + 1, 0, none⟩)]) (by simp) (by simp [go_sem]) ?_
              refine (catch_panickingRow w.heap.size (w.heap.size + 1) (w.heap.size + 1 + 1) vc [] _ (.slice A1 n1 c1) (.int .i64 0) (.int .i64 0) 26 3 31 V1.out V2.out V3.out (by omega) (by omega) (by omega)).mono ?_
              rintro e u' w'' ⟨rfl, rfl, w3, h3, rfl⟩
              have c1 := cell_of_heap (h3.heap V1.out id) 0
              have c2 := cell_of_heap (h3.heap V2.out id) 0
              have c3 := cell_of_heap (h3.heap V3.out id) 0
              simp [Leaves, settle, results, Try.results34, go_sem, c1, c2, c3, RowEnd]
              exact (FreshRow.nil (fun _ => False) w).grow ((((O5.out.trans' h3).setCell (p := ⟨w.heap.size, 0, none⟩) (.inr (by simp)) _).setCell (p := ⟨w.heap.size + 1, 0, none⟩) (.inr (by simp)) _).setCell (p := ⟨w.heap.size + 1 + 1, 0, none⟩) (.inr (by simp; omega)) _) (fun _ h => h.elim)
            refine AllReady.cons rfl (fun K hK => ?_) AllReady.nil
            go_simp
            go_at_call 78
            refine HVb.out.mono ?_
            rintro e w4 ⟨rfl, hO4⟩
            have O4 := hide hO4
            clear hO4
            have V1 := hide (O4.out.heap V1r.out (by omega))
            have V2 := hide (O4.out.heap V2r.out (by omega))
            have V3 := hide (O4.out.heap V3r.out (by omega))
            have O5 : Hid (Only (fun _ => False) w w4) := hOw.out.drew.trans O4.out fun y hy e => by omega
            refine leaves_cons (f := 77) (args := #[.pointer (some ⟨w.heap.size, 0, none⟩), .pointer (some ⟨w.heap.size + 1, 0, none⟩), .pointer (some ⟨w.heap.size + 1 + 1, 0, none⟩)]) (by simp) (by simp [go_sem]) ?_
            refine (catch_panickingRow w.heap.size (w.heap.size + 1) (w.heap.size + 1 + 1) vc [] _ (.slice A1 n1 c1) (.int .i64 0) (.int .i64 0) 26 3 31 V1.out V2.out V3.out (by omega) (by omega) (by omega)).mono ?_
            rintro e u' w'' ⟨rfl, rfl, w3, h3, rfl⟩
            have c1 := cell_of_heap (h3.heap V1.out id) 0
            have c2 := cell_of_heap (h3.heap V2.out id) 0
            have c3 := cell_of_heap (h3.heap V3.out id) 0
            simp [Leaves, settle, results, Try.results34, go_sem, c1, c2, c3, RowEnd]
            exact (FreshRow.nil (fun _ => False) w).grow ((((O5.out.trans' h3).setCell (p := ⟨w.heap.size, 0, none⟩) (.inr (by simp)) _).setCell (p := ⟨w.heap.size + 1, 0, none⟩) (.inr (by simp)) _).setCell (p := ⟨w.heap.size + 1 + 1, 0, none⟩) (.inr (by simp; omega)) _) (fun _ h => h.elim)
        · obtain rfl : j = rn := by omega
          have ht := HT.out
          rw [Nat.sub_self, comb_end] at ht
          subst ht
          obtain ⟨W1, W2, W3, W4⟩ := HW.out
          have hOr : Hid (Only (fun y => y = w.heap.size ∨ y = w.heap.size + 1 + 1 + 1) (readW w #[.slice none 0 0] 26 A n c k) wr) := by rw [← HS.out]; exact HF.out.only
          have hOw : Hid (Only (fun _ => False) w wr) := HO.out.trans hOr.out fun y hy e => by omega
          have c2 := cell_of_heap (hOr.out.heap W2 (by omega)) 0
          have c3 := cell_of_heap (hOr.out.heap W3 (by omega)) 0
          have z2 := frozen_of_heap (hOr.out.heap W2 (by omega)) 0
          have z3 := frozen_of_heap (hOr.out.heap W3 (by omega)) 0
          have d1 := cell_of_heap HD.out 1
          simp at c2 c3 d1
          clear W1 W2 W3 W4
          go_wp2
          go_region
          all_goals
            go_wp2
            refine leaves_cons (f := 77) (args := #[.pointer (some ⟨w.heap.size, 0, none⟩), .pointer (some ⟨w.heap.size + 1, 0, none⟩), .pointer (some ⟨w.heap.size + 1 + 1, 0, none⟩)]) (by simp) (by simp [go_sem]) ?_
            refine (catch_idleRow _ _ _ _).mono ?_
            rintro e u' w'' ⟨rfl, rfl, rfl⟩
            simp [Leaves, settle, results, Try.results34, go_sem, cr, c2, c3, RowEnd]
            have hsets : Only (fun y => y = w.heap.size ∨ y = w.heap.size + 1 ∨ y = w.heap.size + 1 + 1) wr (((wr.setCell ⟨w.heap.size, 0, none⟩ (.slice A1 n1 c1)).setCell ⟨w.heap.size + 1, 0, none⟩ (.int .i64 at_)).setCell ⟨w.heap.size + 1 + 1, 0, none⟩ (.int .i64 0)) :=
              (((only_one wr _ 0 _).mono fun y _ e => .inl e).trans' ((only_one _ _ 0 _).mono fun y _ e => .inr (.inl e))).trans' ((only_one _ _ 0 _).mono fun y _ e => .inr (.inr e))
            have hnew := HF.out.new
            rw [HSZ.out] at hnew
            have hfin : FreshRow (fun _ => False) w (((wr.setCell ⟨w.heap.size, 0, none⟩ (.slice A1 n1 c1)).setCell ⟨w.heap.size + 1, 0, none⟩ (.int .i64 at_)).setCell ⟨w.heap.size + 1 + 1, 0, none⟩ (.int .i64 0)) (.slice A1 n1 c1) vs :=
              ⟨hsets.owns HF.out.own fun y hy e => by have := hnew y hy; omega, hOw.out.trans hsets fun y hy e => by omega, fun y hy => by have := hnew y hy; omega⟩
            first
              | exact hfin
              | exact hfin.grow ((Only.refl _ _).drew) (fun _ h => h.elim)
  · try simp only at h0
    have ht := HT.out
    rw [if_neg h0] at ht
    subst ht
    obtain ⟨W1, W2, W3, W4⟩ := HW.out
    have V1 := hide (O2.out.heap W1 (by omega))
    have V2 := hide (O2.out.heap W2 (by omega))
    have V3 := hide (O2.out.heap W3 (by omega))
    clear W1 W2 W3 W4
    refine leaves_cons (f := 77) (args := #[.pointer (some ⟨w.heap.size, 0, none⟩), .pointer (some ⟨w.heap.size + 1, 0, none⟩), .pointer (some ⟨w.heap.size + 1 + 1, 0, none⟩)]) (by simp) (by simp [go_sem]) ?_
    refine (catch_panickingRow w.heap.size (w.heap.size + 1) (w.heap.size + 1 + 1) rc [] _ (.slice none 0 0) (.int .i64 0) (.int .i64 0) 26 3 31 V1.out V2.out V3.out (by omega) (by omega) (by omega)).mono ?_
    rintro e u' w'' ⟨rfl, rfl, w3, h3, rfl⟩
    have c1 := cell_of_heap (h3.heap V1.out id) 0
    have c2 := cell_of_heap (h3.heap V2.out id) 0
    have c3 := cell_of_heap (h3.heap V3.out id) 0
    simp [Leaves, settle, results, Try.results34, go_sem, c1, c2, c3, RowEnd]
    exact (FreshRow.nil (fun _ => False) w).grow ((((O3.out.trans' h3).setCell (p := ⟨w.heap.size, 0, none⟩) (.inr (by simp)) _).setCell (p := ⟨w.heap.size + 1, 0, none⟩) (.inr (by simp)) _).setCell (p := ⟨w.heap.size + 1 + 1, 0, none⟩) (.inr (by simp; omega)) _) (fun _ h => h.elim)

/-- What Row answers. -/
def readRow (l : List UInt8) (k : Int) : List VD × Nat × Int := if k < 0 ∨ (l.length : Int) < k then ([], 0, 1) else rdRow l k.toNat
theorem Row_any {w : World} (x : Value) (l : List UInt8) (k : Int) (hx : Rds w x (bytesV l)) (hxw : ∀ b, rdBlock x = some b → b < w.heap.size) (hl : l.length ≤ 9223372036854775000) :
    Calls Try.prog 34 #[x, .int .i64 k] w (RowEnd w (readRow l k)) := by
  unfold readRow
  by_cases hk : k < 0 ∨ (l.length : Int) < k
  · rw [if_pos hk]
    refine (Row_bad x l k hx hl hk).mono ?_
    rintro e w' ⟨rfl, hO⟩
    exact ⟨_, rfl, (FreshRow.nil (fun _ => False) w).grow hO (fun _ h => h.elim)⟩
  · rw [if_neg hk]
    have := Row_in x l k.toNat hx hxw hl (by omega)
    rw [Int.toNat_of_nonneg (by omega)] at this
    exact this

end Go.Proofs.Ytldhpbmcpmebaab.Cd
