/- files: the bytes of all files, by a copy that crashes and keeps all. -/
import Derived.Test.YtldhpbmcpmebaaaLaw22a
set_option linter.unusedVariables false
set_option linter.unusedSimpArgs false
namespace Go.Proofs.Ytldhpbmcpmebaaa
open Go.RowKit

theorem info_sl : (Try.prog.info? 33).map (fun i => (i.zero, i.size, i.bytes)) = some (some (.slice none 0 0), 1, 24) := by kernel_rfl

/-- append of one byte slice onto an owned list of byte slices. -/
theorem wp_appF {w : World} {ops : Array Oper} {rest : List Oper} {o : Oper} {a : Act} {Q : Exit → Act → World → Prop} (hgd : o.guard = none) (s x : Operand)
    (ho : o.op = .call { callee := .builtin .append, args := #[s, x], argTypes := #[52, 52] })
    (v : Value) (n : Nat) (vs : List Value) (hsv : a.eval s = v) (hown : w.ownsRow 0 33 1 v n vs) (g c : Nat) (u : Value) (hxv : a.eval x = .slice (some ⟨g, 0, none⟩) 1 c) (hu : w.cell? ⟨g, 0, none⟩ = some u) (h1 : u.oneCell' = true)
    (hn : n ≤ 1000000)
    (h : ∀ v' w', w'.ownsRow 0 33 1 v' (n + 1) (vs ++ [u]) → w.grownBy w' v.ownBlock → (v'.ownBlock = v.ownBlock ∨ ∃ k, v'.ownBlock = some k ∧ w.heap.size ≤ k) → wpList Try.prog ops Q rest (a.put o.dst v') w') : wpList Try.prog ops Q (o :: rest) a w := by
  obtain ⟨i0, hi, hz0, hz1, hz2⟩ := info_parts info_sl
  have hs : Src Try.prog 1 52 (.slice (some ⟨g, 0, none⟩) 1 c) 1 [u] w := Src.ofSlice w Try.underlying52 _ 1 c [u] rfl (fun j y hj => by
    cases j with
    | zero => cases hj; exact hu
    | succ j => cases hj) (fun y hy => by simp at hy; subst hy; exact h1)
  exact wpList_append_any hgd s x 52 52 ho 0 33 i0 (.slice none 0 0) Try.underlying52 hi hz0 hz1 rfl v n vs hsv hown _ hxv 1 [u] hs (by simp only [maxLen]; omega) (by rw [hz2]; omega) (Nat.zero_le _) h

def keepArr (k : Nat) : Array Value := #[.int .i64 (if 0 < k then 16777216 else 0), .int .i64 (if 1 < k then 16777216 else 0), .int .i64 (if 2 < k then 16777216 else 0), .int .i64 (if 3 < k then 16777216 else 0), .int .i64 (if 4 < k then 16777216 else 0), .int .i64 (if 5 < k then 16777216 else 0), .int .i64 (if 6 < k then 16777216 else 0), .int .i64 (if 7 < k then 16777216 else 0)]
theorem keepArr_set {k : Nat} (h : k < 8) : (keepArr k).setIfInBounds k (.int .i64 16777216) = keepArr (k + 1) := by
  rcases lt8 h with rfl | rfl | rfl | rfl | rfl | rfl | rfl | rfl <;> rfl
theorem keepArr_at {k : Nat} (j : Nat) (h : j < 8) : (keepArr k)[j]? = some (.int .i64 (if j < k then 16777216 else 0)) := by
  rcases lt8 h with rfl | rfl | rfl | rfl | rfl | rfl | rfl | rfl <;> rfl
def keepAll : List Int := [16777216, 16777216, 16777216, 16777216, 16777216, 16777216, 16777216, 16777216]
theorem keepArr_all (k : Nat) (hk : 8 ≤ k) : keepArr k = (intsV keepAll).toArray := by
  unfold keepArr
  simp only [show 0 < k by omega, show 1 < k by omega, show 2 < k by omega, show 3 < k by omega, show 4 < k by omega, show 5 < k by omega, show 6 < k by omega, show 7 < k by omega, if_true]
  rfl
theorem alloc_setCell (w : World) (cs : Array Value) (t : TypeId) (o : Nat) (v : Value) : (w.alloc (.cells cs t)).setCell ⟨w.heap.size, o, none⟩ v = w.alloc (.cells (cs.setIfInBounds o v) t) := by
  unfold World.setCell World.alloc
  simp only
  congr 1
  apply Array.ext_getElem?
  intro i
  rw [Array.getElem?_modify, Array.getElem?_push, Array.getElem?_push]
  by_cases h : i = w.heap.size
  · subst h; simp
  · rw [if_neg (by omega)]
    simp [h]

theorem crash_all {d : DS} (hok : d.Ok) {i : Nat} (hi : i < 8) : (d.crash keepAll).data i = d.data i := by
  have h1 := hok.len hi
  have h2 := hok.syn i hi
  have : d.left keepAll i = d.len i := by
    have e : keepAll.getD i 0 = 16777216 := by rcases lt8 hi with rfl | rfl | rfl | rfl | rfl | rfl | rfl | rfl <;> rfl
    unfold DS.left
    rw [e, if_pos (show i < keepAll.length from hi)]
    have : (16777216 : Int).toNat = 16777216 := rfl
    omega
  unfold DS.crash DS.crashTo
  simp only [hi, if_true, this]
  exact List.take_length

/-- A slice of byte slices that reads as F and lies within the blocks T. -/
def RdFS (w : World) (v : Value) (F : List (List UInt8)) (T : Nat → Prop) : Prop :=
  ∃ vs : List Value, Rds w v vs ∧ vs.length = F.length ∧ (∀ i, i < F.length → Rds w (vs.getD i undef) (bytesV (F.getD i []))) ∧ (∀ k, v.ownBlock = some k → T k) ∧ ∀ i, i < F.length → ∀ k, (vs.getD i undef).ownBlock = some k → T k
theorem RdFS.rdF {w : World} {v : Value} {F : List (List UInt8)} {T : Nat → Prop} (h : RdFS w v F T) : RdF w v F := by
  obtain ⟨vs, h1, h2, h3, _⟩ := h
  exact ⟨vs, h1, h2, h3⟩
theorem RdFS.only {w w' : World} {v : Value} {F : List (List UInt8)} {T S : Nat → Prop} (h : RdFS w v F T) (ho : Only S w w') (hd : ∀ k, T k → ¬ S k) : RdFS w' v F T := by
  obtain ⟨vs, h1, h2, h3, h4, h5⟩ := h
  exact ⟨vs, h1.only ho fun k hk => hd k (h4 k (rdBlock_own hk)), h2, fun i hi => (h3 i hi).only ho fun k hk => hd k (h5 i hi k (rdBlock_own hk)), h4, h5⟩

def DS.all (d : DS) : List (List UInt8) := [d.data 0, d.data 1, d.data 2, d.data 3, d.data 4, d.data 5, d.data 6, d.data 7]
theorem all_getD (d : DS) {i : Nat} (hi : i < 8) : d.all.getD i [] = d.data i := by
  rcases lt8 hi with rfl | rfl | rfl | rfl | rfl | rfl | rfl | rfl <;> rfl

/-- The list, its first k files being there. -/
structure FilesTo (w : World) (d d2 : DS) (g k : Nat) (V : Nat → Value) (v : Value) (vs : List Value) (wr : World) : Prop where
  disk : DiskAt wr g d2 V
  own : wr.ownsRow 0 33 1 v k vs
  new : ∀ x, v.ownBlock = some x → w.heap.size ≤ x
  els : ∀ i, i < k → wr.ownsRow 0 5 1 (vs.getD i undef) (d.len i) (bytesV (d.data i)) ∧ ∀ x, (vs.getD i undef).ownBlock = some x → w.heap.size ≤ x
  only : Only (fun _ => False) w wr
theorem FilesTo.next {w : World} {d d2 : DS} {g k : Nat} {V : Nat → Value} {v : Value} {vs : List Value} {wr w1 w2 : World} (h : FilesTo w d d2 g k V v vs wr)
    {u v' : Value} (hu : w1.ownsRow 0 5 1 u (d.len k) (bytesV (d.data k))) (hb : NewB wr u) (ho : Only (fun _ => False) wr w1) (hv : w2.ownsRow 0 33 1 v' (k + 1) (vs ++ [u])) (hg : w1.grownBy w2 v.ownBlock) (hn : v'.ownBlock = v.ownBlock ∨ ∃ k, v'.ownBlock = some k ∧ w1.heap.size ≤ k) :
    FilesTo w d d2 g (k + 1) V v' (vs ++ [u]) w2 := by
  have hw := h.only.size
  have hlen : vs.length = k := by have := h.own.1; omega
  have hov : w1.ownsRow 0 33 1 v k vs := ho.owns h.own fun _ _ => id
  have hS : ∀ x cur t, w1.heap[x]? = some (.cells cur t (0, 0)) → t ≠ 33 → v.ownBlock ≠ some x := by
    intro x cur t hx ht e
    obtain ⟨cur', hc⟩ := owns_block hov e
    rw [hx] at hc
    injection hc with hc
    injection hc with _ hc
    exact ht hc
  have hO : Only (fun x => v.ownBlock = some x) w1 w2 := ⟨hg.os, hg.tape, hg.output, hg.size, fun x hx hn => hg.block x hx (fun e => hn e.symm)⟩
  have keepRow : ∀ {y : Value} {n : Nat} {l : List Value}, w1.ownsRow 0 5 1 y n l → w2.ownsRow 0 5 1 y n l := fun {y n l} hy => hO.owns hy fun x hx e => by
    obtain ⟨cur, hc⟩ := owns_block hy hx
    exact hS x cur _ hc (by decide) e
  refine ⟨?_, hv, fun x hx => ?_, fun i hi => ?_, ?_⟩
  · have hd : DiskAt w1 g d2 V := h.disk.only ho fun _ _ => id
    refine hd.only hO ?_
    rintro x (rfl | ⟨i, hi, hx⟩) e
    · exact hS _ _ _ hd.blk (by decide) e
    · obtain ⟨cur, hc⟩ := owns_block (hd.own i hi) hx
      exact hS _ _ _ hc (by decide) e
  · rcases hn with e | ⟨y, e, hy⟩
    · rw [e] at hx; exact h.new x hx
    · rw [hx] at e; cases e; exact Nat.le_trans hw (Nat.le_trans ho.size hy)
  · by_cases e : i < k
    · have e2 : (vs ++ [u]).getD i undef = vs.getD i undef := by
        rw [List.getD_eq_getElem?_getD, List.getElem?_append_left (by omega), ← List.getD_eq_getElem?_getD]
      rw [e2]
      exact ⟨keepRow (ho.owns (h.els i e).1 fun _ _ => id), (h.els i e).2⟩
    · obtain rfl : i = k := by omega
      have e2 : (vs ++ [u]).getD i undef = u := by
        rw [List.getD_eq_getElem?_getD, List.getElem?_append_right (by omega), hlen]
        simp
      rw [e2]
      refine ⟨keepRow hu, fun x hx => ?_⟩
      rcases hb with e | ⟨y, e, hy⟩
      · rw [hx] at e; cases e
      · rw [hx] at e; cases e; exact Nat.le_trans hw hy
  · exact (h.only.trans' ho).grown hg fun x hx => .inr (h.new x hx)

end Go.Proofs.Ytldhpbmcpmebaaa
