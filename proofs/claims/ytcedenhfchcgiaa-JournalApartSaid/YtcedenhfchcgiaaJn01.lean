/- Journals: lists of records in memory: how they read, how they are owned; copied, Records' part; the law's same. -/
import Derived.Test.YtcedenhfchcgiaaDiskMake
import Derived.Test.YtcedenhfchcgiaaCod02b
set_option linter.unusedVariables false
set_option linter.unusedSimpArgs false
namespace Go.Proofs.Ytcedenhfchcgiaa.Jn
open Go.RowKit

/-- The slice reads as the list of records, within the blocks T. -/
structure RdRecs (w : World) (A : Option Addr) (n : Nat) (recs : List (List UInt8)) (T : Nat → Prop) : Prop where
  len : n = recs.length
  at_ : ∀ i, i < recs.length → ∃ b o V, A = some ⟨b, o, none⟩ ∧ T b ∧ w.cell? ⟨b, o + i, none⟩ = some V ∧ Rds w V (bytesV (recs.getD i [])) ∧ ∀ k, rdBlock V = some k → T k
theorem RdRecs.only {S T : Nat → Prop} {w w' : World} {A : Option Addr} {n : Nat} {recs : List (List UInt8)} (h : RdRecs w A n recs T) (ho : Only S w w') (hd : ∀ k, T k → ¬ S k) : RdRecs w' A n recs T := by
  refine ⟨h.len, fun i hi => ?_⟩
  obtain ⟨b, o, V, hA, hT, h1, h2, h3⟩ := h.at_ i hi
  exact ⟨b, o, V, hA, hT, ho.cell h1 (hd b hT), h2.only ho fun k hk => hd k (h3 k hk), h3⟩
theorem RdRecs.grow {T : Nat → Prop} {w w' : World} {A : Option Addr} {n : Nat} {recs : List (List UInt8)} (h : RdRecs w A n recs T) (ho : Only (fun _ => False) w w') : RdRecs w' A n recs T := h.only ho fun _ _ => id
theorem RdRecs.lt {w : World} {A : Option Addr} {n : Nat} {recs : List (List UInt8)} {T : Nat → Prop} (h : RdRecs w A n recs T) : RdRecs w A n recs (fun k => k < w.heap.size) := by
  refine ⟨h.len, fun i hi => ?_⟩
  obtain ⟨b, o, V, hA, hT, h1, h2, h3⟩ := h.at_ i hi
  exact ⟨b, o, V, hA, World.block_lt_of_cell? w _ h1, h1, h2, fun k hk => Cd.rds_lt h2 hk⟩

/-- A list of records that was made since w1: the slice and each record are one's own. -/
structure FreshRecs (w1 w2 : World) (v : Value) (recs : List (List UInt8)) : Prop where
  own : ∃ Vs : List Value, w2.ownsRow 0 23 1 v recs.length Vs ∧ ∀ i, i < recs.length → ∃ V, Vs[i]? = some V ∧ w2.ownsRow 0 5 1 V (recs.getD i []).length (bytesV (recs.getD i [])) ∧ ∀ k, V.ownBlock = some k → w1.heap.size ≤ k
  only : Only (fun _ => False) w1 w2
  new : ∀ k, v.ownBlock = some k → w1.heap.size ≤ k
theorem FreshRecs.grow {w1 w2 w3 : World} {v : Value} {recs : List (List UInt8)} (h : FreshRecs w1 w2 v recs) (ho : Only (fun _ => False) w2 w3) : FreshRecs w1 w3 v recs := by
  obtain ⟨Vs, h1, h2⟩ := h.own
  refine ⟨⟨Vs, ho.owns h1 fun _ _ => id, fun i hi => ?_⟩, h.only.trans' ho, h.new⟩
  obtain ⟨V, e, g1, g2⟩ := h2 i hi
  exact ⟨V, e, ho.owns g1 fun _ _ => id, g2⟩
theorem FreshRecs.nil (w : World) : FreshRecs w w (.slice none 0 0) [] := ⟨⟨[], World.ownsRow_nil _ _ _ _, fun i hi => by cases hi⟩, Only.refl _ _, fun k hk => by cases hk⟩
theorem tags : (5 : TypeId) ≠ 23 := by decide
theorem apart_tags {w : World} {v V : Value} {n m : Nat} {xs ys : List Value} (h : w.ownsRow 0 23 1 v n xs) (h2 : w.ownsRow 0 5 1 V m ys) : ∀ k, V.ownBlock = some k → v.ownBlock ≠ some k := by
  intro k h3 h4
  obtain ⟨c1, e1⟩ := owns_block h h4
  obtain ⟨c2, e2⟩ := owns_block h2 h3
  rw [e1] at e2
  injection e2 with e2
  injection e2 with _ e2
  exact tags e2.symm
theorem FreshRecs.push {w1 w2 w3 : World} {v v' V : Value} {recs : List (List UInt8)} {l : List UInt8} {Vs : List Value} (h : FreshRecs w1 w2 v recs) (hVs : w2.ownsRow 0 23 1 v recs.length Vs)
    (hall : ∀ i, i < recs.length → ∃ V, Vs[i]? = some V ∧ w2.ownsRow 0 5 1 V (recs.getD i []).length (bytesV (recs.getD i [])) ∧ ∀ k, V.ownBlock = some k → w1.heap.size ≤ k)
    (hV : w2.ownsRow 0 5 1 V l.length (bytesV l)) (hVn : ∀ k, V.ownBlock = some k → w1.heap.size ≤ k)
    (g1 : w3.ownsRow 0 23 1 v' (recs.length + 1) (Vs ++ [V])) (g2 : w2.grownBy w3 v.ownBlock) (g3 : v'.ownBlock = v.ownBlock ∨ ∃ k, v'.ownBlock = some k ∧ w2.heap.size ≤ k) : FreshRecs w1 w3 v' (recs ++ [l]) := by
  have hle : Vs.length = recs.length := by have := hVs.1; omega
  have hg : Only (fun k => v.ownBlock = some k) w2 w3 := (Only.refl _ w2).grown g2 fun k hk => .inl hk
  refine ⟨⟨Vs ++ [V], by rw [List.length_append]; exact g1, fun i hi => ?_⟩, h.only.grown g2 fun k hk => .inr (h.new k hk), fun k hk => ?_⟩
  · by_cases e : i < recs.length
    · obtain ⟨X, e1, e2, e3⟩ := hall i e
      refine ⟨X, by rw [List.getElem?_append_left (by omega)]; exact e1, ?_, e3⟩
      rw [List.getD_eq_getElem?_getD, List.getElem?_append_left e, ← List.getD_eq_getElem?_getD]
      exact hg.owns e2 (apart_tags hVs e2)
    · have e2 : i = recs.length := by rw [List.length_append] at hi; simp at hi; omega
      subst e2
      refine ⟨V, by rw [List.getElem?_append_right (by omega), hle]; simp, ?_, hVn⟩
      rw [List.getD_eq_getElem?_getD, List.getElem?_append_right (Nat.le_refl _)]
      simp only [Nat.sub_self, List.getElem?_cons_zero, Option.getD_some]
      exact hg.owns hV (apart_tags hVs hV)
  · rcases g3 with g3 | ⟨k', g3, h'⟩
    · exact h.new k (by rw [← g3, hk])
    · rw [hk] at g3
      injection g3 with g3
      have := h.only.size
      omega
theorem FreshRecs.rd {w1 w2 : World} {A : Option Addr} {m c : Nat} {recs : List (List UInt8)} (h : FreshRecs w1 w2 (.slice A m c) recs) : m = recs.length ∧ RdRecs w2 A recs.length recs (fun k => w1.heap.size ≤ k) := by
  obtain ⟨Vs, h1, h2⟩ := h.own
  refine ⟨Cd.own_n h1, rfl, fun i hi => ?_⟩
  obtain ⟨V, e, g1, g2⟩ := h2 i hi
  rcases h1.2 with ⟨h3, h4⟩ | ⟨g, cap, cur, hv, hb, hh, hn, hc, hs, ht⟩
  · omega
  · injection hv with e1 e2 e3
    subst e1
    have hc := h1.cells (g := g) rfl i V e
    rw [addr_eta _ rfl] at hc
    exact ⟨g, 0, V, rfl, h.new g rfl, hc, Rds.own g1, fun k hk => g2 k (rdBlock_own hk)⟩

theorem info_sl : (Try.prog.info? 23).map (fun i => (i.zero, i.size, i.bytes)) = some (some (.slice none 0 0), 1, 24) := by kernel_rfl
/-- append of one slice of bytes onto an owned list of them. -/
theorem wp_rec {w : World} {ops : Array Oper} {rest : List Oper} {o : Oper} {a : Act} {Q : Exit → Act → World → Prop} (hgd : o.guard = none) (s x : Operand)
    (ho : o.op = .call { callee := .builtin .append, args := #[s, x], argTypes := #[22, 22] })
    (v : Value) (n : Nat) (Vs : List Value) (hsv : a.eval s = v) (hown : w.ownsRow 0 23 1 v n Vs) (xv : Value) (hxv : a.eval x = xv) (V : Value) (hs : Src Try.prog 1 22 xv 1 [V] w) (hn : n ≤ 1000000)
    (h : ∀ v' w', w'.ownsRow 0 23 1 v' (n + 1) (Vs ++ [V]) → w.grownBy w' v.ownBlock → (v'.ownBlock = v.ownBlock ∨ ∃ k, v'.ownBlock = some k ∧ w.heap.size ≤ k) → wpList Try.prog ops Q rest (a.put o.dst v') w') : wpList Try.prog ops Q (o :: rest) a w := by
  obtain ⟨i0, hi, hz0, hz1, hz2⟩ := info_parts info_sl
  exact wpList_append_any hgd s x 22 22 ho 0 23 i0 (.slice none 0 0) Try.underlying22 hi hz0 hz1 rfl v n Vs hsv hown xv hxv 1 [V] hs (by simp only [maxLen]; omega) (by rw [hz2]; omega) (Nat.zero_le _) h
theorem src_rec (w : World) (g : Nat) (hg : g = w.heap.size) (A : Option Addr) (n c : Nat) : Src Try.prog 1 22 (.slice (some ⟨g, 0, none⟩) 1 1) 1 [.slice A n c] (w.alloc (.cells #[.slice A n c] 23)) := by
  subst hg
  refine Src.ofSlice _ Try.underlying22 _ 1 1 _ rfl (fun j u hj => ?_) (fun u hu => by simp at hu; subst hu; rfl)
  rw [addr_eta _ rfl]
  simp only [Nat.zero_add]
  rw [cell_of_heap (heap_alloc_new w _)]
  simpa using hj

set_option maxRecDepth 100000 in
set_option maxHeartbeats 1000000 in
theorem copied_any {w : World} (A : Option Addr) (n cap : Nat) (recs : List (List UInt8)) {T : Nat → Prop} (h : RdRecs w A n recs T) (hn : n ≤ 1000) (hl : ∀ i, i < recs.length → (recs.getD i []).length ≤ lim47) :
    Calls Try.prog 25 #[.slice A n cap] w fun e w' => ∃ v, e = .returned v ∧ FreshRecs w w' v recs := by
  have H := hide h
  have HL := hide h.len
  have Hl := hide hl
  clear h hl
  go_enter Try.func25, Try.ntmps25
  go_wp2
  go_loopw [3, 8] (fun v i wr => ∃ k : Nat, k ≤ n ∧ i = .int .i64 k ∧ Hid (FreshRecs w wr v (recs.take k))) (fun _ i _ => n - (intOf i).toNat)
  case atStart => exact ⟨0, by omega, rfl, by simpa using hide (FreshRecs.nil w)⟩
  case round =>
    obtain ⟨k, hk, rfl, HF⟩ := hrel
    obtain ⟨Vs, hVs, hall⟩ := HF.out.own
    obtain ⟨A1, n1, c1, rfl⟩ := own_form' hVs
    have HVs := hide hVs
    have HAll := hide hall
    clear hVs hall
    by_cases hlt : k < n
    · have hk' : k < recs.length := by rw [← HL.out]; exact hlt
      have hlk : Hid ((recs.take k).length = k) := by show _ = _; rw [List.length_take]; omega
      obtain ⟨b, o, V, rfl, hT, c1', hV, -⟩ := (H.out.grow HF.out.only).at_ k hk'
      obtain ⟨VA, vn, vc, rfl⟩ := Cd.rds_form hV
      have HC := hide (clone_any wr _ _ hV (Hl.out k hk'))
      clear hV hT
      go_wp2_with fail
      refine HC.out.mono ?_
      rintro e w2 ⟨v2, rfl, hown, hnew, hO⟩
      obtain ⟨A2, n2, c2, rfl⟩ := own_form' hown
      have F2 := hide (HF.out.grow hO)
      have HV2 := hide hown
      have HN2 : Hid (∀ y, (Value.slice A2 n2 c2).ownBlock = some y → w.heap.size ≤ y) := fun y hy => by
        rcases hnew with e | ⟨z, e, hz⟩
        · rw [hy] at e; cases e
        · rw [hy] at e; injection e with e; have := HF.out.only.size; omega
      have HVs2 := hide (hO.owns HVs.out fun _ _ => id)
      have HAll2 := hide (fun i hi => (HAll.out i hi).imp fun V hV => And.intro hV.1 (And.intro (hO.owns hV.2.1 fun _ _ => id) hV.2.2))
      clear hown hnew hO
      have P2 := hide ((Only.refl (fun _ => False) w2).alloc (.cells #[.slice A2 n2 c2] 23))
      go_wp2_with (at_builtin; refine wp_rec rfl _ _ rfl (.slice A1 n1 c1) _ Vs rfl (P2.out.owns HVs2.out fun _ _ => id) _ rfl (.slice A2 n2 c2) (src_rec w2 _ (by first | rfl | simp) _ _ _) (by rw [hlk.out]; omega) ?_; intro v3 w3 g1 g2 g3; have F3 := hide ((F2.out.grow P2.out).push (P2.out.owns HVs2.out fun _ _ => id) (fun i hi => (HAll2.out i hi).imp fun V hV => And.intro hV.1 (And.intro (P2.out.owns hV.2.1 fun _ _ => id) hV.2.2)) (P2.out.owns HV2.out fun _ _ => id) HN2.out g1 g2 g3); clear g1 g2 g3)
      go_roundw
      case rel =>
        refine ⟨k + 1, by omega, by go_num, ?_⟩
        have e : recs.take (k + 1) = recs.take k ++ [recs.getD k []] := by
          rw [List.take_succ_eq_append_getElem hk', List.getD_eq_getElem?_getD, List.getElem?_eq_getElem hk']
          rfl
        rw [e]
        exact F3
      case measure => simp [intOf]; omega
    · obtain rfl : k = n := by omega
      go_wp2
      go_ret
      refine ⟨_, rfl, ?_⟩
      have := HF.out
      rw [HL.out, List.take_length] at this
      exact this

end Go.Proofs.Ytcedenhfchcgiaa.Jn
