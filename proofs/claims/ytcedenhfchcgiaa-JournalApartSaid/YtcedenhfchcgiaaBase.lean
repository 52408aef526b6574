/- Words of my own that hold for any program: which blocks of memory a piece of code may change; byte slices that are read; slices that are owned, and append onto them. -/
import Derived.WalkKit
import Derived.KernelRfl
import Derived.Below
import Derived.Deep.AppendSrc
import Derived.Deep.QuietTactic
import Derived.BigQuiet
import Derived.Deep.Draws
set_option linter.unusedVariables false
set_option linter.unusedSimpArgs false
namespace Go.Proofs.Ytcedenhfchcgiaa
open Go.RowKit

theorem hide {p : Prop} (h : p) : Hid p := h

/-! ### Blocks that may have changed -/
/-- Only blocks in S, and new ones, differ. -/
structure Only (S : Nat → Prop) (w w' : World) : Prop where
  os : w'.os = w.os
  tape : w'.tape = w.tape
  output : w'.output = w.output
  size : w.heap.size ≤ w'.heap.size
  block : ∀ k, k < w.heap.size → ¬ S k → w'.heap[k]? = w.heap[k]?

/-- The step from w (footprint S) to w' (footprint S'). -/
structure Stp (S : Nat → Prop) (w w' : World) (S' : Nat → Prop) : Prop where
  only : Only S w w'
  foot : ∀ k, S' k → S k ∨ w.heap.size ≤ k

theorem Only.refl (S : Nat → Prop) (w : World) : Only S w w := ⟨rfl, rfl, rfl, Nat.le_refl _, fun _ _ _ => rfl⟩
theorem Only.trans {S T : Nat → Prop} {a b c : World} (h : Only S a b) (k : Only T b c) (hT : ∀ x, x < a.heap.size → T x → S x) : Only S a c :=
  ⟨k.os.trans h.os, k.tape.trans h.tape, k.output.trans h.output, Nat.le_trans h.size k.size, fun i hi hn => (k.block i (Nat.lt_of_lt_of_le hi h.size) (fun ht => hn (hT i hi ht))).trans (h.block i hi hn)⟩
theorem Only.trans' {S : Nat → Prop} {a b c : World} (h : Only S a b) (k : Only S b c) : Only S a c := h.trans k fun _ _ h => h
theorem Only.mono {S T : Nat → Prop} {a b : World} (h : Only S a b) (hT : ∀ x, x < a.heap.size → S x → T x) : Only T a b :=
  ⟨h.os, h.tape, h.output, h.size, fun i hi hn => h.block i hi (fun ht => hn (hT i hi ht))⟩
theorem Only.drew {S : Nat → Prop} {a b : World} (h : Only S a b) : Only S a b.drew := ⟨h.os, h.tape, h.output, h.size, h.block⟩
theorem Only.drewN {S : Nat → Prop} {a b : World} (h : Only S a b) (n : Nat) : Only S a (b.drewN n) := ⟨h.os, h.tape, h.output, h.size, h.block⟩
theorem Only.alloc {S : Nat → Prop} {a b : World} (h : Only S a b) (o : Obj) : Only S a (b.alloc o) :=
  h.trans' ⟨rfl, rfl, rfl, by simp, fun k hk _ => Below.heap_alloc _ _ _ hk⟩
theorem Only.setCell {S : Nat → Prop} {a b : World} (h : Only S a b) {p : Addr} (hp : S p.block ∨ a.heap.size ≤ p.block) (u : Value) : Only S a (b.setCell p u) :=
  ⟨h.os, h.tape, h.output, by simpa [World.setCell] using h.size, fun k hk hn => by
    rw [Below.heap_setCell _ _ _ _ (by rintro rfl; rcases hp with hp | hp; exact hn hp; omega)]
    exact h.block k hk hn⟩
theorem Only.setRow {S : Nat → Prop} {a b : World} (h : Only S a b) {g : Nat} (hp : S g ∨ a.heap.size ≤ g) (cs : Array Value) : Only S a (b.setRow g cs) :=
  ⟨h.os, h.tape, h.output, by simpa using h.size, fun k hk hn => by
    rw [setRow_other b g k cs (by rintro rfl; rcases hp with hp | hp; exact hn hp; omega)]
    exact h.block k hk hn⟩
theorem Only.grown {S : Nat → Prop} {a b c : World} {row : Option Nat} (h : Only S a b) (hg : b.grownBy c row) (hr : ∀ k, row = some k → S k ∨ a.heap.size ≤ k) : Only S a c :=
  ⟨hg.os.trans h.os, hg.tape.trans h.tape, hg.output.trans h.output, Nat.le_trans h.size hg.size, fun i hi hn => (hg.block i (Nat.lt_of_lt_of_le hi h.size) (fun e => by
    rcases hr i e.symm with h1 | h1
    · exact hn h1
    · omega)).trans (h.block i hi hn)⟩
theorem Only.below {a b : World} (h : Below a.heap.size a b) (S : Nat → Prop) : Only S a b := ⟨h.os, h.tape, h.output, h.size, fun k hk _ => h.block k hk⟩
theorem Only.toBelow {S : Nat → Prop} {a b : World} {B : Nat} (h : Only S a b) (hB : B ≤ a.heap.size) (hS : ∀ k, S k → B ≤ k) : Below B a b :=
  ⟨h.os, h.tape, h.output, h.size, fun k hk => h.block k (by omega) (fun hs => by have := hS k hs; omega)⟩
theorem Only.cell {S : Nat → Prop} {a b : World} (h : Only S a b) {p : Addr} {v : Value} (hc : a.cell? p = some v) (hn : ¬ S p.block) : b.cell? p = some v :=
  (World.cell?_of_block (w := a) (h.block p.block (World.block_lt_of_cell? a p hc) hn)).trans hc
theorem Only.heap {S : Nat → Prop} {a b : World} (h : Only S a b) {k : Nat} {o : Obj} (hc : a.heap[k]? = some o) (hn : ¬ S k) : b.heap[k]? = some o :=
  (h.block k (Array.getElem?_eq_some_iff.1 hc).1 hn).trans hc
theorem Only.owns {S : Nat → Prop} {a b : World} (h : Only S a b) {base : Nat} {e : TypeId} {size n : Nat} {v : Value} {xs : List Value} (ho : a.ownsRow base e size v n xs) (hn : ∀ k, v.ownBlock = some k → ¬ S k) : b.ownsRow base e size v n xs := by
  obtain ⟨h1, h2⟩ := ho
  refine ⟨h1, ?_⟩
  rcases h2 with h2 | ⟨g, cap, cur, rfl, hg, hh, r⟩
  · exact .inl h2
  · exact .inr ⟨g, cap, cur, rfl, hg, h.heap hh (hn g rfl), r⟩

theorem Stp.refl (S : Nat → Prop) (w : World) : Stp S w w S := ⟨Only.refl S w, fun _ h => .inl h⟩
theorem Stp.trans {S T U : Nat → Prop} {a b c : World} (h : Stp S a b T) (k : Stp T b c U) : Stp S a c U :=
  ⟨h.only.trans k.only fun x hx ht => (h.foot x ht).elim id fun h => absurd h (by omega), fun x hx => (k.foot x hx).elim (fun h1 => h.foot x h1) fun h1 => .inr (Nat.le_trans h.only.size h1)⟩
theorem Stp.onlyL {S T : Nat → Prop} {a b c : World} (h : Only (fun _ => False) a b) (k : Stp S b c T) : Stp S a c T :=
  ⟨(h.mono fun _ _ h => h.elim).trans' k.only, fun x hx => (k.foot x hx).elim .inl fun h1 => .inr (Nat.le_trans h.size h1)⟩
theorem Stp.onlyR {S T : Nat → Prop} {a b c : World} (h : Stp S a b T) (k : Only (fun _ => False) b c) : Stp S a c T :=
  ⟨h.only.trans' (k.mono fun _ _ h => h.elim), h.foot⟩

/-! ### Bytes -/
def bytesV (l : List UInt8) : List Value := l.map fun b => .int .u8 (b.toNat : Int)
theorem bytesV_length (l : List UInt8) : (bytesV l).length = l.length := by simp [bytesV]
theorem bytesV_append (l m : List UInt8) : bytesV (l ++ m) = bytesV l ++ bytesV m := by simp [bytesV]
theorem bytesV_take (l : List UInt8) (n : Nat) : bytesV (l.take n) = (bytesV l).take n := by simp [bytesV, List.map_take]
theorem bytesV_one (l : List UInt8) : ∀ u ∈ bytesV l, u.oneCell' = true := fun u hu => by
  obtain ⟨_, _, rfl⟩ := List.mem_map.1 hu
  rfl
theorem bytesV_get (l : List UInt8) (j : Nat) (h : j < l.length) : (bytesV l)[j]? = some (.int .u8 (l[j].toNat : Int)) := by simp [bytesV, h]
theorem bytesV_inj {l m : List UInt8} (h : bytesV l = bytesV m) : l = m := by
  induction l generalizing m with
  | nil => cases m with
    | nil => rfl
    | cons b m => simp [bytesV] at h
  | cons a l ih => cases m with
    | nil => simp [bytesV] at h
    | cons b m =>
      simp only [bytesV, List.map_cons, List.cons.injEq, Value.int.injEq, true_and] at h
      rw [ih h.2, UInt8.toNat_inj.1 (Int.ofNat.inj h.1)]

/-- A slice of one-cell elements reads as the list xs. -/
def Rds (w : World) (v : Value) (xs : List Value) : Prop :=
  ∃ A cap, v = .slice A xs.length cap ∧ xs.length ≤ cap ∧ cap ≤ maxLen ∧ (A = none → cap = 0) ∧ (∀ a, A = some a → 0 < xs.length → a.spot = none) ∧ ∀ a, A = some a → ∀ j u, xs[j]? = some u → w.cell? (a.add j) = some u
/-- The block that a slice value reads from: none where it has no elements. -/
def rdBlock : Value → Option Nat
  | .slice (some a) n _ => if n = 0 then none else some a.block
  | _ => none
theorem rdBlock_own {v : Value} {k : Nat} (h : rdBlock v = some k) : v.ownBlock = some k := by
  unfold rdBlock at h
  split at h
  · split at h
    · cases h
    · exact h
  · cases h
theorem rdBlock_le {A : Option Addr} {m n c c' k : Nat} (hm : m ≤ n) (h : rdBlock (.slice A m c) = some k) : rdBlock (.slice A n c') = some k := by
  cases A with
  | none => cases h
  | some a =>
    simp only [rdBlock] at h ⊢
    split at h
    · cases h
    · rw [if_neg (by omega)]; exact h
theorem Rds.only {S : Nat → Prop} {w w' : World} {v : Value} {xs : List Value} (h : Rds w v xs) (ho : Only S w w') (hn : ∀ k, rdBlock v = some k → ¬ S k) : Rds w' v xs := by
  obtain ⟨A, cap, rfl, h1, h2, h3, hsp, h4⟩ := h
  refine ⟨A, cap, rfl, h1, h2, h3, hsp, fun a ha j u hj => ?_⟩
  subst ha
  exact ho.cell (h4 a rfl j u hj) (by
    have : (a.add j).block = a.block := by unfold Addr.add; split <;> rfl
    rw [this]
    have hl := (List.getElem?_eq_some_iff.1 hj).1
    exact hn _ (if_neg (by omega)))
theorem Rds.own {w : World} {base : Nat} {e : TypeId} {n : Nat} {v : Value} {xs : List Value} (h : w.ownsRow base e 1 v n xs) : Rds w v xs := by
  have hl : xs.length = n := by have := h.1; omega
  rcases h.2 with ⟨rfl, rfl⟩ | ⟨g, cap, cur, rfl, hg, hh, hn, hc, hs, ht⟩
  · exact ⟨none, 0, by rw [hl], by omega, by simp [maxLen], (fun _ => rfl), (fun _ h => by cases h), (fun a h => by cases h)⟩
  · refine ⟨some ⟨g, 0, none⟩, cap, by rw [hl], by omega, hc, fun h => (by cases h), fun a ha _ => (by cases ha; rfl), fun a ha j u hj => ?_⟩
    cases ha
    exact h.cells (g := g) rfl j u hj
theorem addr_eta (a : Addr) (h : a.spot = none) (j : Nat) : a.add j = ⟨a.block, a.off + j, none⟩ := by
  obtain ⟨b, o, s⟩ := a
  simp only at h
  subst h
  unfold Addr.add
  split
  · simp_all
  · rfl
theorem Rds.src {P : Program} {w : World} {v : Value} {xs : List Value} (h : Rds w v xs) {t e' : TypeId} (ht : P.underlying t = some (.slice e')) (h1 : ∀ u ∈ xs, u.oneCell' = true) : Src P 1 t v xs.length xs w := by
  obtain ⟨A, cap, rfl, hle, _, hnil, _, hc⟩ := h
  cases A with
  | none =>
    have h0 := hnil rfl
    subst h0
    have : xs = [] := List.eq_nil_of_length_eq_zero (by omega)
    subst this
    exact Src.ofNil w ht 0
  | some a => exact Src.ofSlice w ht a _ cap xs (by omega) (hc a rfl) h1
theorem Rds.take {w : World} {v : Value} {xs : List Value} (h : Rds w v xs) : ∃ A cap, v = .slice A xs.length cap ∧ ∀ n, n ≤ xs.length → Rds w (.slice A n cap) (xs.take n) := by
  obtain ⟨A, cap, rfl, hle, hm, hnil, hsp, hc⟩ := h
  refine ⟨A, cap, rfl, fun n hn => ⟨A, cap, by rw [List.length_take, Nat.min_eq_left hn], by rw [List.length_take]; omega, hm, hnil, (fun a ha h0 => hsp a ha (by rw [List.length_take] at h0; omega)), fun a ha j u hj => hc a ha j u ?_⟩⟩
  rw [List.getElem?_take] at hj
  split at hj
  · exact hj
  · cases hj

/-! ### Owned rows: append -/
/-- Behind an append of whatever source onto an owned slice. -/
theorem run_append_any {P : Program} (w : World) (base : Nat) (t tx ty e : TypeId) (i : TypeInfo) (z : Value) (ht : P.underlying t = some (.slice e)) (hi : P.info? e = some i) (hz : i.zero = some z) (hsize : i.size = 1) (hzs : z.cells.size = 1)
    (v : Value) (n : Nat) (xs : List Value) (hown : w.ownsRow base e 1 v n xs) (x : Value) (m : Nat) (news : List Value) (hs : Src P 1 tx x m news w)
    (h63 : n + m ≤ maxLen) (hbytes : (n + m) * i.bytes ≤ 140737488355328) (hbase : base ≤ w.heap.size) :
    ∃ v' w', (Builtin.append_ #[t, tx] ty #[v, x]).run P w = .ok v' w' ∧ w'.ownsRow base e 1 v' (n + m) (xs ++ news) ∧ w.grownBy w' v.ownBlock ∧ (v'.ownBlock = v.ownBlock ∨ ∃ k, v'.ownBlock = some k ∧ w.heap.size ≤ k) ∧
      (v' = .slice none 0 0 ↔ v = .slice none 0 0 ∧ m = 0) := by
  have hl := hs.newsLen
  have hsmall : n + m ≤ 9223372036854775807 := by simp only [maxLen] at h63; omega
  have hlen : (xs ++ news).length = n + m := by rw [List.length_append, hown.1, hl]; omega
  have hsrc : Src P i.size tx x m news w := by rw [hsize]; exact hs
  have grown : ∀ (old : Nat), old < n + m → ∀ (row : Option Nat),
      (w.drew.alloc (.cells ((xs ++ news).toArray ++ Builtin.zeroCells z.cells (grownCap w (n + m) old e - (n + m))) e)).ownsRow base e 1
        (.slice (some ⟨w.heap.size, 0, none⟩) (n + m) (grownCap w (n + m) old e)) (n + m) (xs ++ news) ∧
      w.grownBy (w.drew.alloc (.cells ((xs ++ news).toArray ++ Builtin.zeroCells z.cells (grownCap w (n + m) old e - (n + m))) e)) row := by
    intro old ho row
    have hge := grownCap_ge w (n + m) old e
    have hcm : grownCap w (n + m) old e ≤ maxLen := grownCap_le_maxLen w (n + m) old e h63
    refine ⟨⟨by omega, .inr ⟨w.heap.size, _, _, rfl, hbase, heap_alloc_new w.drew _, hge, hcm, ?_, ?_⟩⟩, ⟨rfl, rfl, rfl, by simp, fun k hk _ => Below.heap_alloc w.drew _ k hk⟩⟩
    · simp only [Array.size_append, List.size_toArray, size_zeroCells, hzs, hlen]
      omega
    · simp only [Array.toList_append, Nat.mul_one]
      rw [← hlen]
      exact List.take_left
  rcases hown.2 with ⟨rfl, rfl⟩ | ⟨g, cap, cur, rfl, hbg, hg, hnc, hcm, hcs, htake⟩
  · have hx : xs = [] := List.eq_nil_of_length_eq_zero (by simpa using hown.1)
    subst hx
    by_cases hm : m = 0
    · subst hm
      have hn : news = [] := List.eq_nil_of_length_eq_zero (by simpa using hl)
      subst hn
      refine ⟨.slice none 0 0, w, ?_, World.ownsRow_nil w base e 1, ⟨rfl, rfl, rfl, Nat.le_refl _, fun _ _ _ => rfl⟩, .inl rfl, by simp⟩
      rcases hs.kind with ⟨e', hk⟩ | hk <;> simp [Builtin.append_, run_underlying ht, run_underlying hk, sizeOf, typeInfo, hi, hs.len, hsrc.cells]
    · have hr := run_append_grow_src (P := P) w t tx ty e i z ht hi hz none 0 0 [] (by simp [Builtin.firstCells]) x m news hsrc (by omega) (by omega) (growslice_fits (by omega) hbytes)
      have hgr := grown 0 (by omega) (Value.ownBlock (.slice none 0 0))
      exact ⟨_, _, hr, hgr.1, hgr.2, .inr ⟨_, rfl, Nat.le_refl _⟩, by simp [hm]⟩
  · by_cases hroom : n + m ≤ cap
    · have hfit : n * 1 + news.length ≤ cur.size := by omega
      have hst := run_storeCells_at P g (n * 1) e news 0 cur w hg (by simpa using hfit) hs.one
      simp only [Nat.add_zero] at hst
      refine ⟨.slice (some ⟨g, 0, none⟩) (n + m) cap, w.setRow g (cur.toList.take (n * 1) ++ news ++ cur.toList.drop (n * 1 + news.length)).toArray, ?_,
        ⟨by omega, .inr ⟨g, cap, _, rfl, hbg, setRow_heap w g cur _ e _ hg, hroom, hcm, ?_, ?_⟩⟩, ⟨rfl, rfl, rfl, by simp, fun k _ hk => setRow_other w g k _ (fun e => hk (by simp [Value.ownBlock, e]))⟩, .inl rfl, by simp⟩
      · rcases hs.kind with ⟨e', hk⟩ | hk <;> simp [Builtin.append_, run_underlying ht, run_underlying hk, sizeOf, typeInfo, hi, hsize, hs.len, hroom, hs.cells, Addr.add_lit] at hst ⊢ <;> rw [hst] <;> simp
      · simp only [List.size_toArray, List.length_append, List.length_take, List.length_drop, Array.length_toList]
        omega
      · rw [htake, Nat.mul_one, ← hlen]
        exact List.take_left
    · have holds : ∀ j u, xs[j]? = some u → w.cell? ((⟨g, 0, none⟩ : Addr).add j) = some u := hown.cells (g := g) rfl
      have hr := run_append_grow_src (P := P) w t tx ty e i z ht hi hz (some ⟨g, 0, none⟩) n cap xs (run_firstCells_some w.drew i.size n ⟨g, 0, none⟩ n cap xs (by rw [hsize]; exact hown.1) (by simpa using holds)) x m news hsrc (by omega) (by omega) (growslice_fits (by omega) hbytes)
      have hgr := grown cap (by omega) (Value.ownBlock (.slice (some ⟨g, 0, none⟩) n cap))
      exact ⟨_, _, hr, hgr.1, hgr.2, .inr ⟨_, rfl, Nat.le_refl _⟩, by simp⟩

/-- The same as an arm of a walk. -/
theorem wpList_append_any {P : Program} {w : World} {ops : Array Oper} {rest : List Oper} {o : Oper} {a : Act} {Q : Exit → Act → World → Prop} (hgd : o.guard = none) (s x : Operand) (t tx : TypeId)
    (ho : o.op = .call { callee := .builtin .append, args := #[s, x], argTypes := #[t, tx] })
    (base : Nat) (e : TypeId) (i : TypeInfo) (z : Value) (ht : P.underlying t = some (.slice e)) (hi : P.info? e = some i) (hz : i.zero = some z) (hsize : i.size = 1) (hzs : z.cells.size = 1)
    (v : Value) (n : Nat) (xs : List Value) (hsv : a.eval s = v) (hown : w.ownsRow base e 1 v n xs) (xv : Value) (hxv : a.eval x = xv) (m : Nat) (news : List Value) (hs : Src P 1 tx xv m news w)
    (h63 : n + m ≤ maxLen) (hbytes : (n + m) * i.bytes ≤ 140737488355328) (hbase : base ≤ w.heap.size)
    (h : ∀ v' w', w'.ownsRow base e 1 v' (n + m) (xs ++ news) → w.grownBy w' v.ownBlock → (v'.ownBlock = v.ownBlock ∨ ∃ k, v'.ownBlock = some k ∧ w.heap.size ≤ k) → wpList P ops Q rest (a.put o.dst v') w') : wpList P ops Q (o :: rest) a w :=
  wpList_plain hgd fun _ hK => by
    obtain ⟨v', w', hr, h2, h3, h4, _⟩ := run_append_any (P := P) w base t tx o.type e i z ht hi hz hsize hzs v n xs hown xv m news hs h63 hbytes hbase
    unfold Oper.wp execOp
    simp only [ho, resolve, invoke, builtin, Sem.run_bind, Sem.run_pure, Result.andThen_ok, List.map_toArray, List.map_cons, List.map_nil, hsv, hxv, hr]
    exact hK _ _ (h v' w' h2 h3 h4)

end Go.Proofs.Ytcedenhfchcgiaa
