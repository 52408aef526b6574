/- The disk of the program as it lies in memory: one block of nineteen cells, and for each of its eight files a slice of bytes that nobody else holds. -/
import Derived.Test.YtcedenhfchcgiaaBase
import Derived.Test.YtcedenhfchcgiaaProg
set_option linter.unusedVariables false
set_option linter.unusedSimpArgs false
namespace Go.Proofs.Ytcedenhfchcgiaa
open Go.RowKit

/-- What a disk is: its room, the bytes of each file, how many of them are synced, the plan (0: none), and whether it is off. -/
structure DS where
  room : Nat
  data : Nat → List UInt8
  syn : Nat → Nat
  plan : Nat
  off : Bool

def upd {α : Type} (f : Nat → α) (i : Nat) (x : α) : Nat → α := fun j => if j = i then x else f j
theorem upd_same {α : Type} (f : Nat → α) (i : Nat) (x : α) : upd f i x i = x := by simp [upd]
theorem upd_ne {α : Type} (f : Nat → α) {i j : Nat} (x : α) (h : j ≠ i) : upd f i x j = f j := by simp [upd, h]

def sumTo (f : Nat → Nat) : Nat → Nat
  | 0 => 0
  | n + 1 => sumTo f n + f n
theorem sumTo_mono (f : Nat → Nat) {n m : Nat} (h : n ≤ m) : sumTo f n ≤ sumTo f m := by
  induction m with
  | zero => obtain rfl : n = 0 := by omega
            exact Nat.le_refl _
  | succ m ih =>
    by_cases e : n = m + 1
    · subst e; exact Nat.le_refl _
    · have := ih (by omega)
      simp only [sumTo]; omega
theorem sumTo_congr {f g : Nat → Nat} (n : Nat) (h : ∀ i, i < n → f i = g i) : sumTo f n = sumTo g n := by
  induction n with
  | zero => rfl
  | succ n ih => simp only [sumTo]; rw [ih fun i hi => h i (by omega), h n (by omega)]
theorem le_sumTo (f : Nat → Nat) {i n : Nat} (h : i < n) : f i ≤ sumTo f n := by
  have h1 := sumTo_mono f (show i + 1 ≤ n by omega)
  simp only [sumTo] at h1
  omega
theorem sumTo_upd (f : Nat → Nat) (i x : Nat) (n : Nat) : sumTo (upd f i x) n + (if i < n then f i else 0) = sumTo f n + (if i < n then x else 0) := by
  induction n with
  | zero => simp [sumTo]
  | succ n ih =>
    simp only [sumTo]
    by_cases h : i = n
    · subst h
      simp only [upd_same, Nat.lt_irrefl, if_false, Nat.lt_succ_self, if_true] at ih ⊢
      omega
    · rw [upd_ne f x (fun e => h e.symm)]
      by_cases h2 : i < n
      · simp only [h2, if_true, show i < n + 1 by omega] at ih ⊢
        omega
      · simp only [h2, if_false, show ¬ i < n + 1 by omega] at ih ⊢
        omega

def DS.len (d : DS) (i : Nat) : Nat := (d.data i).length
def DS.used (d : DS) : Nat := sumTo d.len 8
/-- What always holds of a disk. -/
structure DS.Ok (d : DS) : Prop where
  room : d.room ≤ 16777216
  used : d.used ≤ d.room
  syn : ∀ i, i < 8 → d.syn i ≤ d.len i
  plan : d.plan ≤ 9223372036854775807
theorem DS.Ok.len {d : DS} (h : d.Ok) {i : Nat} (hi : i < 8) : d.len i ≤ 16777216 := by
  have h1 := le_sumTo d.len hi
  have h2 := h.used
  have h3 := h.room
  simp only [DS.used] at h2
  omega

def diskArr (d : DS) (V : Nat → Value) : Array Value :=
  #[.int .i64 d.room, V 0, .int .i64 (d.syn 0), V 1, .int .i64 (d.syn 1), V 2, .int .i64 (d.syn 2), V 3, .int .i64 (d.syn 3), V 4, .int .i64 (d.syn 4), V 5, .int .i64 (d.syn 5), V 6, .int .i64 (d.syn 6), V 7, .int .i64 (d.syn 7), .int .i64 d.plan, .bool d.off]

theorem lt8 {i : Nat} (h : i < 8) : i = 0 ∨ i = 1 ∨ i = 2 ∨ i = 3 ∨ i = 4 ∨ i = 5 ∨ i = 6 ∨ i = 7 := by omega
theorem diskArr_data (d : DS) (V : Nat → Value) {i : Nat} (h : i < 8) : (diskArr d V)[1 + i * 2]? = some (V i) := by
  rcases lt8 h with rfl | rfl | rfl | rfl | rfl | rfl | rfl | rfl <;> rfl
theorem diskArr_syn (d : DS) (V : Nat → Value) {i : Nat} (h : i < 8) : (diskArr d V)[1 + i * 2 + 1]? = some (.int .i64 (d.syn i)) := by
  rcases lt8 h with rfl | rfl | rfl | rfl | rfl | rfl | rfl | rfl <;> rfl
theorem diskArr_set_data (d : DS) (V : Nat → Value) {i : Nat} (h : i < 8) (v : Value) : (diskArr d V).setIfInBounds (1 + i * 2) v = diskArr d (upd V i v) := by
  rcases lt8 h with rfl | rfl | rfl | rfl | rfl | rfl | rfl | rfl <;> rfl
theorem diskArr_set_syn (d : DS) (V : Nat → Value) {i : Nat} (h : i < 8) (n : Nat) : (diskArr d V).setIfInBounds (1 + i * 2 + 1) (.int .i64 n) = diskArr { d with syn := upd d.syn i n } V := by
  rcases lt8 h with rfl | rfl | rfl | rfl | rfl | rfl | rfl | rfl <;> rfl
theorem diskArr_set_plan (d : DS) (V : Nat → Value) (n : Nat) : (diskArr d V).setIfInBounds 17 (.int .i64 n) = diskArr { d with plan := n } V := rfl
theorem diskArr_set_off (d : DS) (V : Nat → Value) (x : Bool) : (diskArr d V).setIfInBounds 18 (.bool x) = diskArr { d with off := x } V := rfl
theorem diskArr_data_irrel (d : DS) (V : Nat → Value) (f : Nat → List UInt8) : diskArr { d with data := f } V = diskArr d V := rfl

/-- The disk d lies at block b, its files' slices are V. -/
structure DiskAt (w : World) (b : Nat) (d : DS) (V : Nat → Value) : Prop where
  blk : w.heap[b]? = some (.cells (diskArr d V) 55 (0, 0))
  own : ∀ i, i < 8 → w.ownsRow 0 5 1 (V i) (d.len i) (bytesV (d.data i))
  apart : ∀ i j, i < 8 → j < 8 → i ≠ j → (V i).ownBlock = none ∨ (V i).ownBlock ≠ (V j).ownBlock

def dfoot (b : Nat) (V : Nat → Value) (k : Nat) : Prop := k = b ∨ ∃ i, i < 8 ∧ (V i).ownBlock = some k

theorem owns_block {w : World} {base : Nat} {e : TypeId} {size n : Nat} {v : Value} {xs : List Value} (h : w.ownsRow base e size v n xs) {k : Nat} (hk : v.ownBlock = some k) : ∃ cur, w.heap[k]? = some (.cells cur e (0, 0)) := by
  rcases h.2 with ⟨rfl, _⟩ | ⟨g, cap, cur, rfl, _, hh, _⟩
  · cases hk
  · cases hk
    exact ⟨cur, hh⟩
theorem DiskAt.ne {w : World} {b : Nat} {d : DS} {V : Nat → Value} (h : DiskAt w b d V) {i : Nat} (hi : i < 8) : (V i).ownBlock ≠ some b := by
  intro e
  obtain ⟨cur, hc⟩ := owns_block (h.own i hi) e
  rw [h.blk] at hc
  cases hc
theorem heap_lt {w : World} {k : Nat} {o : Obj} (h : w.heap[k]? = some o) : k < w.heap.size := (Array.getElem?_eq_some_iff.1 h).1
theorem DiskAt.foot_lt {w : World} {b : Nat} {d : DS} {V : Nat → Value} (h : DiskAt w b d V) {k : Nat} (hk : dfoot b V k) : k < w.heap.size := by
  rcases hk with rfl | ⟨i, hi, e⟩
  · exact heap_lt h.blk
  · obtain ⟨cur, hc⟩ := owns_block (h.own i hi) e
    exact heap_lt hc
theorem DiskAt.only {S : Nat → Prop} {w w' : World} {b : Nat} {d : DS} {V : Nat → Value} (h : DiskAt w b d V) (ho : Only S w w') (hS : ∀ k, dfoot b V k → ¬ S k) : DiskAt w' b d V :=
  ⟨ho.heap h.blk (hS b (.inl rfl)), fun i hi => ho.owns (h.own i hi) fun k hk => hS k (.inr ⟨i, hi, hk⟩), h.apart⟩

theorem DiskAt.drew {w : World} {b : Nat} {d : DS} {V : Nat → Value} (h : DiskAt w b d V) : DiskAt w.drew b d V := h.only ((Only.refl (fun _ => False) w).drew) (by simp)
theorem DiskAt.drewN {w : World} {b : Nat} {d : DS} {V : Nat → Value} (h : DiskAt w b d V) (n : Nat) : DiskAt (w.drewN n) b d V := h.only ((Only.refl (fun _ => False) w).drewN n) (by simp)

theorem cell_of_heap {w : World} {b : Nat} {cs : Array Value} {t : TypeId} {f : Nat × Nat} (h : w.heap[b]? = some (.cells cs t f)) (o : Nat) : w.cell? ⟨b, o, none⟩ = cs[o]? := by simp [World.cell?, h]
theorem frozen_of_heap {w : World} {b : Nat} {cs : Array Value} {t : TypeId} (h : w.heap[b]? = some (.cells cs t (0, 0))) (o : Nat) : w.frozen? ⟨b, o, none⟩ = false := by simp [World.frozen?, h]
theorem heap_setCell_at {w : World} {b : Nat} {cs : Array Value} {t : TypeId} {f : Nat × Nat} (h : w.heap[b]? = some (.cells cs t f)) (o : Nat) (v : Value) : (w.setCell ⟨b, o, none⟩ v).heap[b]? = some (.cells (cs.setIfInBounds o v) t f) := by
  simp [World.setCell, Array.getElem?_modify, h]
theorem DiskAt.cell_room {w : World} {b : Nat} {d : DS} {V : Nat → Value} (h : DiskAt w b d V) : w.cell? ⟨b, 0, none⟩ = some (.int .i64 d.room) := cell_of_heap h.blk 0
theorem DiskAt.cell_plan {w : World} {b : Nat} {d : DS} {V : Nat → Value} (h : DiskAt w b d V) : w.cell? ⟨b, 17, none⟩ = some (.int .i64 d.plan) := cell_of_heap h.blk 17
theorem DiskAt.cell_off {w : World} {b : Nat} {d : DS} {V : Nat → Value} (h : DiskAt w b d V) : w.cell? ⟨b, 18, none⟩ = some (.bool d.off) := cell_of_heap h.blk 18
theorem DiskAt.cell_data {w : World} {b : Nat} {d : DS} {V : Nat → Value} (h : DiskAt w b d V) {i : Nat} (hi : i < 8) : w.cell? ⟨b, 1 + i * 2, none⟩ = some (V i) := (cell_of_heap h.blk _).trans (diskArr_data d V hi)
theorem DiskAt.cell_syn {w : World} {b : Nat} {d : DS} {V : Nat → Value} (h : DiskAt w b d V) {i : Nat} (hi : i < 8) : w.cell? ⟨b, 1 + i * 2 + 1, none⟩ = some (.int .i64 (d.syn i)) := (cell_of_heap h.blk _).trans (diskArr_syn d V hi)
theorem DiskAt.frozen {w : World} {b : Nat} {d : DS} {V : Nat → Value} (h : DiskAt w b d V) (o : Nat) : w.frozen? ⟨b, o, none⟩ = false := frozen_of_heap h.blk o

theorem owns_setCell {w : World} {base : Nat} {e : TypeId} {size n : Nat} {v : Value} {xs : List Value} (h : w.ownsRow base e size v n xs) {p : Addr} (hp : v.ownBlock ≠ some p.block) (u : Value) : (w.setCell p u).ownsRow base e size v n xs :=
  ((Only.refl (fun k => k = p.block) w).setCell (.inl rfl) u).owns h fun k hk e => hp (by rw [hk, e])
/-- A store into the plan, the switch, the number of synced bytes. -/
theorem DiskAt.set_plan {w : World} {b : Nat} {d : DS} {V : Nat → Value} (h : DiskAt w b d V) (n : Nat) : DiskAt (w.setCell ⟨b, 17, none⟩ (.int .i64 n)) b { d with plan := n } V :=
  ⟨by rw [heap_setCell_at h.blk, diskArr_set_plan], fun i hi => owns_setCell (h.own i hi) (h.ne hi) _, h.apart⟩
theorem DiskAt.set_off {w : World} {b : Nat} {d : DS} {V : Nat → Value} (h : DiskAt w b d V) (x : Bool) : DiskAt (w.setCell ⟨b, 18, none⟩ (.bool x)) b { d with off := x } V :=
  ⟨by rw [heap_setCell_at h.blk, diskArr_set_off], fun i hi => owns_setCell (h.own i hi) (h.ne hi) _, h.apart⟩
theorem DiskAt.set_syn {w : World} {b : Nat} {d : DS} {V : Nat → Value} (h : DiskAt w b d V) {i : Nat} (hi : i < 8) (n : Nat) : DiskAt (w.setCell ⟨b, 1 + i * 2 + 1, none⟩ (.int .i64 n)) b { d with syn := upd d.syn i n } V :=
  ⟨by rw [heap_setCell_at h.blk, diskArr_set_syn d V hi], fun i hi => owns_setCell (h.own i hi) (h.ne hi) _, h.apart⟩
/-- A store of other bytes: the world w1 may have changed the file's own row, and has the new one. -/
theorem DiskAt.set_data {w w1 : World} {b : Nat} {d : DS} {V : Nat → Value} (h : DiskAt w b d V) {i : Nat} (hi : i < 8) (hg : w.grownBy w1 (V i).ownBlock) {v : Value} {l : List UInt8} (hv : w1.ownsRow 0 5 1 v l.length (bytesV l))
    (hb : v.ownBlock = none ∨ v.ownBlock = (V i).ownBlock ∨ ∃ k, v.ownBlock = some k ∧ w.heap.size ≤ k) : DiskAt (w1.setCell ⟨b, 1 + i * 2, none⟩ v) b { d with data := upd d.data i l } (upd V i v) := by
  have hbw : b < w.heap.size := heap_lt h.blk
  have hb1 : w1.heap[b]? = some (.cells (diskArr d V) 55 (0, 0)) := (hg.block b hbw (fun e => h.ne hi e.symm)).trans h.blk
  have hvb : v.ownBlock ≠ some b := by
    rcases hb with e | e | ⟨k, e, hk⟩
    · rw [e]; simp
    · rw [e]; exact h.ne hi
    · rw [e]; intro e2; injection e2 with e2; omega
  have hvj : ∀ j, j < 8 → j ≠ i → v.ownBlock = none ∨ v.ownBlock ≠ (V j).ownBlock := by
    intro j hj hji
    rcases hb with e | e | ⟨k, e, hk⟩
    · exact .inl e
    · rw [e]; exact h.apart i j hi hj (fun e => hji e.symm)
    · right
      rw [e]
      intro e2
      obtain ⟨cur, hc⟩ := owns_block (h.own j hj) e2.symm
      have := heap_lt hc
      omega
  refine ⟨?_, fun j hj => ?_, fun j k hj hk hjk => ?_⟩
  · rw [heap_setCell_at hb1, diskArr_set_data d V hi]; rfl
  · by_cases e : j = i
    · subst e
      simp only [upd_same, DS.len]
      exact owns_setCell hv hvb _
    · simp only [upd_ne _ _ e, DS.len]
      have h1 : w1.ownsRow 0 5 1 (V j) (d.len j) (bytesV (d.data j)) := by
        refine (h.own j hj).kept hg ?_
        exact h.apart j i hj hi e
      exact owns_setCell h1 (h.ne hj) _
  · by_cases ej : j = i
    · subst ej
      rw [upd_same, upd_ne _ _ (fun e => hjk e.symm)]
      exact hvj k hk (fun e => hjk e.symm)
    · rw [upd_ne _ _ ej]
      by_cases ek : k = i
      · subst ek
        rw [upd_same]
        rcases hvj j hj ej with e | e
        · rw [e]
          cases hV : (V j).ownBlock with
          | none => exact .inl rfl
          | some x => exact .inr (by simp)
        · exact .inr fun e2 => e e2.symm
      · rw [upd_ne _ _ ek]
        exact h.apart j k hj hk hjk

/-- The disk lies within the blocks S. -/
def DiskIn (w : World) (b : Nat) (d : DS) (S : Nat → Prop) : Prop := d.Ok ∧ ∃ V, DiskAt w b d V ∧ (∀ k, dfoot b V k → S k)

end Go.Proofs.Ytcedenhfchcgiaa
