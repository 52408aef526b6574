/- DiskCrashes: append of calls, and the plain law. -/
import Derived.Test.YtldhpbmcpmebaaaRef22e
set_option linter.unusedVariables false
set_option linter.unusedSimpArgs false
namespace Go.Proofs.Ytldhpbmcpmebaaa
open Go.RowKit

/-- Behind an append of whatever source onto an owned slice. -/
theorem run_append_5 {P : Program} (w : World) (base : Nat) (t tx ty e : TypeId) (i : TypeInfo) (z : Value) (ht : P.underlying t = some (.slice e)) (hi : P.info? e = some i) (hz : i.zero = some z) (hsize : i.size = 5) (hzs : z.cells.size = 5)
    (v : Value) (n : Nat) (xs : List Value) (hown : w.ownsRow base e 5 v n xs) (x : Value) (m : Nat) (news : List Value) (hs : Src P 5 tx x m news w)
    (h63 : n + m ≤ maxLen) (hbytes : (n + m) * i.bytes ≤ 140737488355328) (hbase : base ≤ w.heap.size) :
    ∃ v' w', (Builtin.append_ #[t, tx] ty #[v, x]).run P w = .ok v' w' ∧ w'.ownsRow base e 5 v' (n + m) (xs ++ news) ∧ w.grownBy w' v.ownBlock ∧ (v'.ownBlock = v.ownBlock ∨ ∃ k, v'.ownBlock = some k ∧ w.heap.size ≤ k) ∧
      (v' = .slice none 0 0 ↔ v = .slice none 0 0 ∧ m = 0) := by
  have hl := hs.newsLen
  have hsmall : n + m ≤ 9223372036854775807 := by simp only [maxLen] at h63; omega
  have hlen : (xs ++ news).length = (n + m) * 5 := by rw [List.length_append, hown.1, hl]; omega
  have hsrc : Src P i.size tx x m news w := by rw [hsize]; exact hs
  have grown : ∀ (old : Nat), old < n + m → ∀ (row : Option Nat),
      (w.drew.alloc (.cells ((xs ++ news).toArray ++ Builtin.zeroCells z.cells (grownCap w (n + m) old e - (n + m))) e)).ownsRow base e 5
        (.slice (some ⟨w.heap.size, 0, none⟩) (n + m) (grownCap w (n + m) old e)) (n + m) (xs ++ news) ∧
      w.grownBy (w.drew.alloc (.cells ((xs ++ news).toArray ++ Builtin.zeroCells z.cells (grownCap w (n + m) old e - (n + m))) e)) row := by
    intro old ho row
    have hge := grownCap_ge w (n + m) old e
    have hcm : grownCap w (n + m) old e ≤ maxLen := grownCap_le_maxLen w (n + m) old e h63
    refine ⟨⟨by omega, .inr ⟨w.heap.size, _, _, rfl, hbase, heap_alloc_new w.drew _, hge, hcm, ?_, ?_⟩⟩, ⟨rfl, rfl, rfl, by simp, fun k hk _ => Below.heap_alloc w.drew _ k hk⟩⟩
    · simp only [Array.size_append, List.size_toArray, size_zeroCells, hzs, hlen]
      omega
    · simp only [Array.toList_append, Nat.mul_one]
      rw [← hlen]
      exact List.take_left
  rcases hown.2 with ⟨rfl, rfl⟩ | ⟨g, cap, cur, rfl, hbg, hg, hnc, hcm, hcs, htake⟩
  · have hx : xs = [] := List.eq_nil_of_length_eq_zero (by simpa using hown.1)
    subst hx
    by_cases hm : m = 0
    · subst hm
      have hn : news = [] := List.eq_nil_of_length_eq_zero (by simpa using hl)
      subst hn
      refine ⟨.slice none 0 0, w, ?_, World.ownsRow_nil w base e 5, ⟨rfl, rfl, rfl, Nat.le_refl _, fun _ _ _ => rfl⟩, .inl rfl, by simp⟩
      rcases hs.kind with ⟨e', hk⟩ | hk <;> simp [Builtin.append_, run_underlying ht, run_underlying hk, sizeOf, typeInfo, hi, hs.len, hsrc.cells]
    · have hr := run_append_grow_src (P := P) w t tx ty e i z ht hi hz none 0 0 [] (by simp [Builtin.firstCells]) x m news hsrc (by omega) (by omega) (growslice_fits (by omega) hbytes)
      have hgr := grown 0 (by omega) (Value.ownBlock (.slice none 0 0))
      exact ⟨_, _, hr, hgr.1, hgr.2, .inr ⟨_, rfl, Nat.le_refl _⟩, by simp [hm]⟩
  · by_cases hroom : n + m ≤ cap
    · have hfit : n * 5 + news.length ≤ cur.size := by omega
      have hst := run_storeCells_at P g (n * 5) e news 0 cur w hg (by simpa using hfit) hs.one
      simp only [Nat.add_zero] at hst
      refine ⟨.slice (some ⟨g, 0, none⟩) (n + m) cap, w.setRow g (cur.toList.take (n * 5) ++ news ++ cur.toList.drop (n * 5 + news.length)).toArray, ?_,
        ⟨by omega, .inr ⟨g, cap, _, rfl, hbg, setRow_heap w g cur _ e _ hg, hroom, hcm, ?_, ?_⟩⟩, ⟨rfl, rfl, rfl, by simp, fun k _ hk => setRow_other w g k _ (fun e => hk (by simp [Value.ownBlock, e]))⟩, .inl rfl, by simp⟩
      · rcases hs.kind with ⟨e', hk⟩ | hk <;> simp [Builtin.append_, run_underlying ht, run_underlying hk, sizeOf, typeInfo, hi, hsize, hs.len, hroom, hs.cells, Addr.add_lit] at hst ⊢ <;> rw [hst] <;> simp
      · simp only [List.size_toArray, List.length_append, List.length_take, List.length_drop, Array.length_toList]
        omega
      · rw [htake, ← hlen]
        exact List.take_left
    · have holds : ∀ j u, xs[j]? = some u → w.cell? ((⟨g, 0, none⟩ : Addr).add j) = some u := hown.cells (g := g) rfl
      have hr := run_append_grow_src (P := P) w t tx ty e i z ht hi hz (some ⟨g, 0, none⟩) n cap xs (run_firstCells_some w.drew i.size n ⟨g, 0, none⟩ n cap xs (by rw [hsize]; exact hown.1) (by simpa using holds)) x m news hsrc (by omega) (by omega) (growslice_fits (by omega) hbytes)
      have hgr := grown cap (by omega) (Value.ownBlock (.slice (some ⟨g, 0, none⟩) n cap))
      exact ⟨_, _, hr, hgr.1, hgr.2, .inr ⟨_, rfl, Nat.le_refl _⟩, by simp⟩

/-- The same as an arm of a walk. -/
theorem wpList_append_5 {P : Program} {w : World} {ops : Array Oper} {rest : List Oper} {o : Oper} {a : Act} {Q : Exit → Act → World → Prop} (hgd : o.guard = none) (s x : Operand) (t tx : TypeId)
    (ho : o.op = .call { callee := .builtin .append, args := #[s, x], argTypes := #[t, tx] })
    (base : Nat) (e : TypeId) (i : TypeInfo) (z : Value) (ht : P.underlying t = some (.slice e)) (hi : P.info? e = some i) (hz : i.zero = some z) (hsize : i.size = 5) (hzs : z.cells.size = 5)
    (v : Value) (n : Nat) (xs : List Value) (hsv : a.eval s = v) (hown : w.ownsRow base e 5 v n xs) (xv : Value) (hxv : a.eval x = xv) (m : Nat) (news : List Value) (hs : Src P 5 tx xv m news w)
    (h63 : n + m ≤ maxLen) (hbytes : (n + m) * i.bytes ≤ 140737488355328) (hbase : base ≤ w.heap.size)
    (h : ∀ v' w', w'.ownsRow base e 5 v' (n + m) (xs ++ news) → w.grownBy w' v.ownBlock → (v'.ownBlock = v.ownBlock ∨ ∃ k, v'.ownBlock = some k ∧ w.heap.size ≤ k) → wpList P ops Q rest (a.put o.dst v') w') : wpList P ops Q (o :: rest) a w :=
  wpList_plain hgd fun _ hK => by
    obtain ⟨v', w', hr, h2, h3, h4, _⟩ := run_append_5 (P := P) w base t tx o.type e i z ht hi hz hsize hzs v n xs hown xv m news hs h63 hbytes hbase
    unfold Oper.wp execOp
    simp only [ho, resolve, invoke, builtin, Sem.run_bind, Sem.run_pure, Result.andThen_ok, List.map_toArray, List.map_cons, List.map_nil, hsv, hxv, hr]
    exact hK _ _ (h v' w' h2 h3 h4)

/-! ### The plain law -/
theorem failed_syn (d : DS) (i : Nat) : d.failed.syn i = d.syn i := by unfold DS.failed; split <;> rfl
/-- Behind a call: what is synced is at least what it was, save at a crash; and what is safe is what has been synced. -/
def SafeOk (d : DS) (s : Nat → Nat) : Prop := ∀ i, i < 8 → s i ≤ d.syn i
theorem safe_gate {d : DS} {s : Nat → Nat} (h : SafeOk d s) (at_ : Int) (ec : Nat → Int) (doF : DS → Nat → DS) (hs : ∀ d1 i, (∀ j, d1.syn j = d.syn j) → ∀ j, j ≠ i → (doF d1 i).syn j = d1.syn j)
    (hs2 : ∀ d1 i, (∀ j, d1.syn j = d.syn j) → (∀ j, d1.data j = d.data j) → ec i = 0 → (doF d1 i).syn i = (doF d1 i).len i) :
    ((d.gate at_ ec doF doNothing).2 ≠ 0 → SafeOk (d.gate at_ ec doF doNothing).1 s) ∧
    ((d.gate at_ ec doF doNothing).2 = 0 → ∃ j : Nat, at_ = j ∧ j < 8 ∧ SafeOk (d.gate at_ ec doF doNothing).1 (upd s j ((d.gate at_ ec doF doNothing).1.len j))) := by
  by_cases hc : d.code at_ = 0
  · obtain ⟨h0, i, rfl, hi⟩ := code_zero hc
    rw [gate_ref hc, Int.toNat_natCast]
    by_cases he : ec i = 0
    · rw [if_neg (by simpa using he)]
      cases hfo : d.failed.off with
      | true =>
        rw [if_pos rfl]
        refine ⟨fun _ j hj => ?_, fun h => absurd (show (220 : Int) = 0 from h) (by decide)⟩
        show s j ≤ d.failed.syn j
        rw [failed_syn]
        exact h j hj
      | false =>
        rw [if_neg (by decide)]
        refine ⟨fun h => absurd rfl h, fun _ => ⟨i, rfl, hi, fun j hj => ?_⟩⟩
        by_cases e : j = i
        · subst e
          rw [upd_same]
          exact Nat.le_of_eq (hs2 _ _ (failed_syn d) (failed_data d) he).symm
        · rw [upd_ne _ _ e]
          show s j ≤ (doF d.failed i).syn j
          rw [hs _ _ (failed_syn d) j e, failed_syn]
          exact h j hj
    · rw [if_pos (by simpa using he)]
      exact ⟨fun _ => h, fun h => absurd h he⟩
  · rw [gate_code hc]
    exact ⟨fun _ => h, fun h => absurd h hc⟩
theorem append_syn (d : DS) (at_ : Int) (l : List UInt8) (j : Nat) : (d.append at_ l).1.syn j = d.syn j := by
  unfold DS.append
  by_cases hc : d.code at_ = 0
  · rw [gate_ref hc]
    split
    · rfl
    · split <;> exact failed_syn d j
  · rw [gate_code hc]
theorem safe_play {d : DS} (hok : d.Ok) {s : Nat → Nat} (h : SafeOk d s) (c : CallD) (h6 : c.kind ≠ 6) :
    (¬ ((d.play c).2 = 0 ∧ 2 ≤ c.kind ∧ c.kind ≤ 4) → SafeOk (d.play c).1 s) ∧
    ((d.play c).2 = 0 ∧ 2 ≤ c.kind ∧ c.kind ≤ 4 → ∃ j : Nat, c.file = j ∧ j < 8 ∧ SafeOk (d.play c).1 (upd s j ((d.play c).1.len j))) := by
  by_cases k1 : c.kind = 1
  · have e : d.play c = d.append c.file (c.bs.take 2000) := by unfold DS.play; rw [if_pos k1]
    rw [e]
    exact ⟨fun _ j hj => by rw [append_syn]; exact h j hj, fun hh => by omega⟩
  · by_cases k2 : c.kind = 2
    · have e : d.play c = d.truncate c.file c.n := by unfold DS.play; rw [if_neg (by omega), if_pos k2]
      rw [e]
      have g := safe_gate h c.file (fun i => d.cut i c.n) (doTruncate c.n.toNat) (fun d1 i h1 j hj => upd_ne _ _ hj) (fun d1 i h1 h2 he => by
        unfold DS.cut at he
        have hn : ¬ (c.n < 0 ∨ (d.len i : Int) < c.n) := fun hh => by rw [if_pos hh] at he; cases he
        show upd d1.syn i c.n.toNat i = (upd d1.data i ((d1.data i).take c.n.toNat) i).length
        rw [upd_same, upd_same, List.length_take, h2]
        have : d.len i = (d.data i).length := rfl
        omega)
      exact ⟨fun hh => g.1 fun h0 => hh ⟨h0, by omega, by omega⟩, fun hh => g.2 hh.1⟩
    · by_cases k3 : c.kind = 3
      · have e : d.play c = d.replace c.file (c.bs.take 2000) := by unfold DS.play; rw [if_neg (by omega), if_neg (by omega), if_pos k3]
        rw [e]
        have g := safe_gate h c.file (d.fits true (c.bs.take 2000).length) (doReplace (c.bs.take 2000)) (fun d1 i h1 j hj => upd_ne _ _ hj) (fun d1 i h1 h2 he => by
          show upd d1.syn i (c.bs.take 2000).length i = (upd d1.data i (c.bs.take 2000) i).length
          rw [upd_same, upd_same])
        exact ⟨fun hh => g.1 fun h0 => hh ⟨h0, by omega, by omega⟩, fun hh => g.2 hh.1⟩
      · by_cases k4 : c.kind = 4
        · have e : d.play c = d.sync c.file := by unfold DS.play; rw [if_neg (by omega), if_neg (by omega), if_neg (by omega), if_pos k4]
          rw [e]
          have g := safe_gate h c.file (fun _ => 0) doSync (fun d1 i h1 j hj => upd_ne _ _ hj) (fun d1 i h1 h2 he => by
            show upd d1.syn i (d1.len i) i = d1.len i
            rw [upd_same])
          exact ⟨fun hh => g.1 fun h0 => hh ⟨h0, by omega, by omega⟩, fun hh => g.2 hh.1⟩
        · refine ⟨fun _ => ?_, fun hh => by omega⟩
          by_cases k5 : c.kind = 5
          · have e : d.play c = (d.fail c.n, 0) := by unfold DS.play; rw [if_neg (by omega), if_neg (by omega), if_neg (by omega), if_neg (by omega), if_pos k5]
            rw [e]
            show SafeOk (d.fail c.n) s
            unfold DS.fail
            split <;> exact h
          · have e : d.play c = (d, 0) := by unfold DS.play; rw [if_neg (by omega), if_neg (by omega), if_neg (by omega), if_neg (by omega), if_neg (by omega), if_neg (by omega)]
            rw [e]
            exact h
/-- Behind a crash. -/
theorem safe_crash {d : DS} (hok : d.Ok) {s : Nat → Nat} (h : SafeOk d s) (keep : List Int) {i : Nat} (hi : i < 8) :
    s i ≤ (d.crash keep).len i ∧ (d.crash keep).len i ≤ d.len i ∧ (d.data i).take ((d.crash keep).len i) = (d.crash keep).data i ∧ (d.crash keep).syn i = (d.crash keep).len i := by
  obtain ⟨h1, h2⟩ := crash_len d hok keep hi
  have h3 := DS.left_le hok keep hi
  refine ⟨?_, ?_, ?_, ?_⟩
  · rw [h1]
    have := h i hi
    unfold DS.left
    omega
  · rw [h1]; exact h3
  · rw [h1]
    unfold DS.crash DS.crashTo
    simp only [hi, if_true]
  · rw [h1, h2]

end Go.Proofs.Ytldhpbmcpmebaaa
