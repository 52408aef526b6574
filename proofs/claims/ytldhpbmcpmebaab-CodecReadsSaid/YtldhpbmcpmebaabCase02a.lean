/- The cases of partsynccase: Int, Text, Number, Value, Any, Cells, walked: what they hand back is valid. -/
import Derived.Test.YtldhpbmcpmebaabCod02e
set_option linter.unusedVariables false
set_option linter.unusedSimpArgs false
namespace Go.Proofs.Ytldhpbmcpmebaab.Cd
open Go.RowKit

/-- Behind an append of whatever source onto an owned slice. -/
theorem run_append_3 {P : Program} (w : World) (base : Nat) (t tx ty e : TypeId) (i : TypeInfo) (z : Value) (ht : P.underlying t = some (.slice e)) (hi : P.info? e = some i) (hz : i.zero = some z) (hsize : i.size = 3) (hzs : z.cells.size = 3)
    (v : Value) (n : Nat) (xs : List Value) (hown : w.ownsRow base e 3 v n xs) (x : Value) (m : Nat) (news : List Value) (hs : Src P 3 tx x m news w)
    (h63 : n + m ≤ maxLen) (hbytes : (n + m) * i.bytes ≤ 140737488355328) (hbase : base ≤ w.heap.size) :
    ∃ v' w', (Builtin.append_ #[t, tx] ty #[v, x]).run P w = .ok v' w' ∧ w'.ownsRow base e 3 v' (n + m) (xs ++ news) ∧ w.grownBy w' v.ownBlock ∧ (v'.ownBlock = v.ownBlock ∨ ∃ k, v'.ownBlock = some k ∧ w.heap.size ≤ k) ∧
      (v' = .slice none 0 0 ↔ v = .slice none 0 0 ∧ m = 0) := by
  have hl := hs.newsLen
  have hsmall : n + m ≤ 9223372036854775807 := by simp only [maxLen] at h63; omega
  have hlen : (xs ++ news).length = (n + m) * 3 := by rw [List.length_append, hown.1, hl]; omega
  have hsrc : Src P i.size tx x m news w := by rw [hsize]; exact hs
  have grown : ∀ (old : Nat), old < n + m → ∀ (row : Option Nat),
      (w.drew.alloc (.cells ((xs ++ news).toArray ++ Builtin.zeroCells z.cells (grownCap w (n + m) old e - (n + m))) e)).ownsRow base e 3
        (.slice (some ⟨w.heap.size, 0, none⟩) (n + m) (grownCap w (n + m) old e)) (n + m) (xs ++ news) ∧
      w.grownBy (w.drew.alloc (.cells ((xs ++ news).toArray ++ Builtin.zeroCells z.cells (grownCap w (n + m) old e - (n + m))) e)) row := by
    intro old ho row
    have hge := grownCap_ge w (n + m) old e
    have hcm : grownCap w (n + m) old e ≤ maxLen := grownCap_le_maxLen w (n + m) old e h63
    refine ⟨⟨by omega, .inr ⟨w.heap.size, _, _, rfl, hbase, heap_alloc_new w.drew _, hge, hcm, ?_, ?_⟩⟩, ⟨rfl, rfl, rfl, by simp, fun k hk _ => Below.heap_alloc w.drew _ k hk⟩⟩
    · simp only [Array.size_append, List.size_toArray, size_zeroCells, hzs, hlen]
      omega
    · simp only [Array.toList_append, Nat.mul_one]
      rw [← hlen]
      exact List.take_left
  rcases hown.2 with ⟨rfl, rfl⟩ | ⟨g, cap, cur, rfl, hbg, hg, hnc, hcm, hcs, htake⟩
  · have hx : xs = [] := List.eq_nil_of_length_eq_zero (by simpa using hown.1)
    subst hx
    by_cases hm : m = 0
    · subst hm
      have hn : news = [] := List.eq_nil_of_length_eq_zero (by simpa using hl)
      subst hn
      refine ⟨.slice none 0 0, w, ?_, World.ownsRow_nil w base e 3, ⟨rfl, rfl, rfl, Nat.le_refl _, fun _ _ _ => rfl⟩, .inl rfl, by simp⟩
      rcases hs.kind with ⟨e', hk⟩ | hk <;> simp [Builtin.append_, run_underlying ht, run_underlying hk, sizeOf, typeInfo, hi, hs.len, hsrc.cells]
    · have hr := run_append_grow_src (P := P) w t tx ty e i z ht hi hz none 0 0 [] (by simp [Builtin.firstCells]) x m news hsrc (by omega) (by omega) (growslice_fits (by omega) hbytes)
      have hgr := grown 0 (by omega) (Value.ownBlock (.slice none 0 0))
      exact ⟨_, _, hr, hgr.1, hgr.2, .inr ⟨_, rfl, Nat.le_refl _⟩, by simp [hm]⟩
  · by_cases hroom : n + m ≤ cap
    · have hfit : n * 3 + news.length ≤ cur.size := by omega
      have hst := run_storeCells_at P g (n * 3) e news 0 cur w hg (by simpa using hfit) hs.one
      simp only [Nat.add_zero] at hst
      refine ⟨.slice (some ⟨g, 0, none⟩) (n + m) cap, w.setRow g (cur.toList.take (n * 3) ++ news ++ cur.toList.drop (n * 3 + news.length)).toArray, ?_,
        ⟨by omega, .inr ⟨g, cap, _, rfl, hbg, setRow_heap w g cur _ e _ hg, hroom, hcm, ?_, ?_⟩⟩, ⟨rfl, rfl, rfl, by simp, fun k _ hk => setRow_other w g k _ (fun e => hk (by simp [Value.ownBlock, e]))⟩, .inl rfl, by simp⟩
      · rcases hs.kind with ⟨e', hk⟩ | hk <;> simp [Builtin.append_, run_underlying ht, run_underlying hk, sizeOf, typeInfo, hi, hsize, hs.len, hroom, hs.cells, Addr.add_lit] at hst ⊢ <;> rw [hst] <;> simp
      · simp only [List.size_toArray, List.length_append, List.length_take, List.length_drop, Array.length_toList]
        omega
      · rw [htake, ← hlen]
        exact List.take_left
    · have holds : ∀ j u, xs[j]? = some u → w.cell? ((⟨g, 0, none⟩ : Addr).add j) = some u := hown.cells (g := g) rfl
      have hr := run_append_grow_src (P := P) w t tx ty e i z ht hi hz (some ⟨g, 0, none⟩) n cap xs (run_firstCells_some w.drew i.size n ⟨g, 0, none⟩ n cap xs (by rw [hsize]; exact hown.1) (by simpa using holds)) x m news hsrc (by omega) (by omega) (growslice_fits (by omega) hbytes)
      have hgr := grown cap (by omega) (Value.ownBlock (.slice (some ⟨g, 0, none⟩) n cap))
      exact ⟨_, _, hr, hgr.1, hgr.2, .inr ⟨_, rfl, Nat.le_refl _⟩, by simp⟩

/-- The same as an arm of a walk. -/
theorem wpList_append_3 {P : Program} {w : World} {ops : Array Oper} {rest : List Oper} {o : Oper} {a : Act} {Q : Exit → Act → World → Prop} (hgd : o.guard = none) (s x : Operand) (t tx : TypeId)
    (ho : o.op = .call { callee := .builtin .append, args := #[s, x], argTypes := #[t, tx] })
    (base : Nat) (e : TypeId) (i : TypeInfo) (z : Value) (ht : P.underlying t = some (.slice e)) (hi : P.info? e = some i) (hz : i.zero = some z) (hsize : i.size = 3) (hzs : z.cells.size = 3)
    (v : Value) (n : Nat) (xs : List Value) (hsv : a.eval s = v) (hown : w.ownsRow base e 3 v n xs) (xv : Value) (hxv : a.eval x = xv) (m : Nat) (news : List Value) (hs : Src P 3 tx xv m news w)
    (h63 : n + m ≤ maxLen) (hbytes : (n + m) * i.bytes ≤ 140737488355328) (hbase : base ≤ w.heap.size)
    (h : ∀ v' w', w'.ownsRow base e 3 v' (n + m) (xs ++ news) → w.grownBy w' v.ownBlock → (v'.ownBlock = v.ownBlock ∨ ∃ k, v'.ownBlock = some k ∧ w.heap.size ≤ k) → wpList P ops Q rest (a.put o.dst v') w') : wpList P ops Q (o :: rest) a w :=
  wpList_plain hgd fun _ hK => by
    obtain ⟨v', w', hr, h2, h3, h4, _⟩ := run_append_3 (P := P) w base t tx o.type e i z ht hi hz hsize hzs v n xs hown xv m news hs h63 hbytes hbase
    unfold Oper.wp execOp
    simp only [ho, resolve, invoke, builtin, Sem.run_bind, Sem.run_pure, Result.andThen_ok, List.map_toArray, List.map_cons, List.map_nil, hsv, hxv, hr]
    exact hK _ _ (h v' w' h2 h3 h4)

/-- A case lies at block g; what it reads lies within R. -/
def CaseIn (w : World) (g : Nat) (R : Nat → Prop) : Prop :=
  R g ∧ (∀ x, R x → x < w.heap.size) ∧ ∃ A n c k l, w.heap[g]? = some (.cells #[.slice A n c, .int .i64 (k : Nat)] 89 (0, 0)) ∧ Rds w (.slice A n c) (bytesV l) ∧ k ≤ n ∧ n ≤ 1000 ∧ rdBlock (.slice A n c) ≠ some g ∧ ∀ b, rdBlock (.slice A n c) = some b → R b
theorem CaseIn.only {w w' : World} {g : Nat} {R S : Nat → Prop} (h : CaseIn w g R) (ho : Only S w w') (hd : ∀ x, R x → ¬ S x) : CaseIn w' g R := by
  obtain ⟨hg, hR, A, n, c, k, l, h1, h2, h3, h4, h5, h6⟩ := h
  exact ⟨hg, fun x hx => Nat.lt_of_lt_of_le (hR x hx) ho.size, A, n, c, k, l, ho.heap h1 (hd g hg), h2.only ho fun b hb => hd b (h6 b hb), h3, h4, h5, h6⟩
theorem CaseIn.grow {w w' : World} {g : Nat} {R : Nat → Prop} (h : CaseIn w g R) (ho : Only (fun _ => False) w w') : CaseIn w' g R := h.only ho fun _ _ => id
theorem CaseIn.low {w : World} {g : Nat} {R : Nat → Prop} (h : CaseIn w g R) : ∀ x, R x → x < w.heap.size := h.2.1
theorem CaseIn.lt {w : World} {g : Nat} {R : Nat → Prop} (h : CaseIn w g R) : g < w.heap.size := by
  obtain ⟨hg, hR, A, n, c, k, l, h1, _⟩ := h
  exact heap_lt h1

set_option maxRecDepth 100000 in
set_option maxHeartbeats 1000000 in
theorem int_any {w : World} {g : Nat} {R : Nat → Prop} (h : CaseIn w g R) (m : Int) (hm : 0 < m) (hm2 : m ≤ 1000000) :
    Calls Try.prog 21 #[.pointer (some ⟨g, 0, none⟩), .int .i64 m] w fun e w' => ∃ r, e = .returned (.int .i64 r) ∧ 0 ≤ r ∧ r < m ∧ CaseIn w' g R ∧ Only (fun x => x = g) w w' := by
  have H := hide h
  obtain ⟨hg, hRl, A, n, c, k, l, h1, h2, h3, h4, h5, h6⟩ := h
  have HRl := hide hRl
  clear hRl
  have hn : n = l.length := by obtain ⟨A, c, e, _⟩ := h2; injection e with _ e _; rw [e, bytesV_length]
  have c0 := cell_of_heap h1 0
  have c1 := cell_of_heap h1 1
  have z1 := frozen_of_heap h1 1
  simp at c0 c1
  have HB := hide h1
  have H2 := hide h2
  have H5 := hide (And.intro h5 h6)
  by_cases hk : n ≤ k
  · have hb : decide (n ≤ k) = true := by simpa using hk
    clear h1 h2 h5 h6 hn
    go_enter Try.func21, Try.ntmps21
    go_wp2
    go_quiet (fail)
    go_wp2
    go_ret
    exact ⟨0, rfl, by omega, hm, H.out.grow ((Only.refl _ w).drewN nq), (Only.refl _ w).drewN nq⟩
  · have hb : decide (n ≤ k) = false := by simpa using hk
    have hb2 : decide (m < 1) = false := by simp; omega
    obtain ⟨b, o, rfl, hc⟩ : ∃ b o, A = some ⟨b, o, none⟩ ∧ w.cell? ⟨b, o + k, none⟩ = some (.int .u8 ((l.getD k 0).toNat : Int)) := by
      obtain ⟨A', c', e, hle, _, hnil, hsp, hcell⟩ := h2
      injection e with e1 e2 e3
      subst e1 e3
      cases A with
      | none => have := hnil rfl; rw [bytesV_length] at hle; omega
      | some a =>
        have h2 := hsp a rfl (by rw [bytesV_length]; omega)
        have h3 := hcell a rfl k _ (bytesV_get l k (by omega))
        rw [addr_eta a h2] at h3
        refine ⟨a.block, a.off, by obtain ⟨ab, ao, s⟩ := a; simp only at h2; subst h2; rfl, ?_⟩
        rw [h3, List.getD_eq_getElem?_getD, List.getElem?_eq_getElem (show k < l.length by omega)]
        rfl
    have hx := (l.getD k 0).toNat_lt
    generalize (l.getD k 0).toNat = x at *
    have hbg : b ≠ g := fun e => h5 (by subst e; exact if_neg (by omega))
    have hcN : ∀ (q : Nat) (u : Value), ((w.drewN q).setCell ⟨g, 1, none⟩ u).cell? ⟨b, o + k, none⟩ = some (.int .u8 (x : Int)) := fun q u => ((((Only.refl (fun y => y = g) w).drewN q).setCell (p := ⟨g, 1, none⟩) (.inl rfl) u)).cell hc hbg
    have hcM : ∀ (q : Nat) (u : Value), ((w.drewN q).setCell ⟨g, 1, none⟩ u).cell? ⟨g, 0, none⟩ = some (.slice (some ⟨b, o, none⟩) n c) := fun q u => by
      rw [cell_of_heap (heap_setCell_at (w := w.drewN q) HB.out 1 u)]
      rfl
    clear h1 h2 h5 h6 hn
    go_enter Try.func21, Try.ntmps21
    go_wp2
    go_quiet (fail)
    go_wp2
    go_quiet (fail)
    go_wp2
    go_ret
    have hO : ∀ q1 q2, Only (fun y => y = g) w (((w.drewN q1).setCell ⟨g, 1, none⟩ (.int .i64 ((k : Int) + 1))).drewN q2) := fun q1 q2 => (((Only.refl (fun y => y = g) w).drewN _).setCell (p := ⟨g, 1, none⟩) (.inl rfl) _).drewN _
    refine ⟨_, rfl, Int.emod_nonneg _ (by omega), Int.emod_lt_of_pos _ hm, ⟨hg, fun x hx => Nat.lt_of_lt_of_le (HRl.out x hx) (hO _ _).size, some ⟨b, o, none⟩, n, c, k + 1, l, ?_, H2.out.only (hO _ _) (fun y hy (e : y = g) => H5.out.1 (hy.trans (congrArg some e))), by simp at hb; omega, h4, H5.out.1, H5.out.2⟩, hO _ _⟩
    show (((w.drewN _).setCell ⟨g, 1, none⟩ (.int .i64 ((k : Int) + 1))).heap[g]? : Option Obj) = _
    rw [heap_setCell_at (w := w.drewN _) HB.out]
    simp

end Go.Proofs.Ytldhpbmcpmebaab.Cd
