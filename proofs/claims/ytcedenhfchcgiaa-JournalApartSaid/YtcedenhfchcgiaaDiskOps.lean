/- Append, Truncate, Replace, Sync. -/
import Derived.Test.YtcedenhfchcgiaaDiskGate
set_option linter.unusedVariables false
set_option linter.unusedSimpArgs false
namespace Go.Proofs.Ytcedenhfchcgiaa
open Go.RowKit

def lim46 : Nat := 70368744177664

theorem enter_space1 (args : Array Value) (w : World) : (callFunc 40 args).run Try.prog w = .ok (.enter 40 args) w := by
  have h := Try.func40
  go_simp
theorem enter_appender1 (args : Array Value) (w : World) : (callFunc 39 args).run Try.prog w = .ok (.enter 39 args) w := by
  have h := Try.func39
  go_simp
theorem enter_replace1 (args : Array Value) (w : World) : (callFunc 42 args).run Try.prog w = .ok (.enter 42 args) w := by
  have h := Try.func42
  go_simp
theorem enter_truncate1 (args : Array Value) (w : World) : (callFunc 35 args).run Try.prog w = .ok (.enter 35 args) w := by
  have h := Try.func35
  go_simp
theorem enter_truncate2 (args : Array Value) (w : World) : (callFunc 36 args).run Try.prog w = .ok (.enter 36 args) w := by
  have h := Try.func36
  go_simp
theorem enter_sync1 (args : Array Value) (w : World) : (callFunc 46 args).run Try.prog w = .ok (.enter 46 args) w := by
  have h := Try.func46
  go_simp
theorem enter_sync2 (args : Array Value) (w : World) : (callFunc 47 args).run Try.prog w = .ok (.enter 47 args) w := by
  have h := Try.func47
  go_simp
theorem enter_nothing (args : Array Value) (w : World) : (callFunc 37 args).run Try.prog w = .ok (.enter 37 args) w := by
  have h := Try.func37
  go_simp

theorem SameFiles.fits {d1 d : DS} (h : SameFiles d1 d) (drop : Bool) (n i : Nat) : d1.fits drop n i = d.fits drop n i := by
  obtain ⟨h1, h2, h3⟩ := h
  unfold DS.fits DS.used DS.len
  rw [h1, h2]
theorem SameFiles.cut {d1 d : DS} (h : SameFiles d1 d) (i : Nat) (n : Int) : d1.cut i n = d.cut i n := by
  obtain ⟨h1, h2, h3⟩ := h
  unfold DS.cut DS.len
  rw [h2]
theorem used_upd (d : DS) {i : Nat} (hi : i < 8) (l : List UInt8) : sumTo ({ d with data := upd d.data i l } : DS).len 8 + d.len i = d.used + l.length := by
  have e : ({ d with data := upd d.data i l } : DS).len = upd d.len i l.length := by
    funext j
    unfold DS.len upd
    simp only
    split <;> rfl
  rw [e]
  have := sumTo_upd d.len i l.length 8
  simp only [hi, if_true] at this
  exact this
theorem len_upd (d : DS) (i j : Nat) (l : List UInt8) : ({ d with data := upd d.data i l } : DS).len j = if j = i then l.length else d.len j := by
  unfold DS.len upd
  simp only
  split <;> rfl

def doAppend (l : List UInt8) (d : DS) (i : Nat) : DS := { d with data := upd d.data i (d.data i ++ l) }
def doReplace (l : List UInt8) (d : DS) (i : Nat) : DS := { d with data := upd d.data i l, syn := upd d.syn i l.length }
def doTruncate (n : Nat) (d : DS) (i : Nat) : DS := { d with data := upd d.data i ((d.data i).take n), syn := upd d.syn i n }
def doSync (d : DS) (i : Nat) : DS := { d with syn := upd d.syn i (d.len i) }
def doNothing (d : DS) (_ : Nat) : DS := d
def DS.append (d : DS) (at_ : Int) (l : List UInt8) : DS × Int := d.gate at_ (d.fits false l.length) (doAppend l) (doAppend l)
def DS.replace (d : DS) (at_ : Int) (l : List UInt8) : DS × Int := d.gate at_ (d.fits true l.length) (doReplace l) doNothing
def DS.truncate (d : DS) (at_ n : Int) : DS × Int := d.gate at_ (fun i => d.cut i n) (doTruncate n.toNat) doNothing
def DS.sync (d : DS) (at_ : Int) : DS × Int := d.gate at_ (fun _ => 0) doSync doNothing

theorem doAppend_ok {d : DS} (h : d.Ok) {i : Nat} (hi : i < 8) {l : List UInt8} (hf : d.fits false l.length i = 0) : (doAppend l d i).Ok := by
  have hu := used_upd d hi (d.data i ++ l)
  have hr := h.used
  have h2 : ¬ d.room < d.used + l.length := by
    intro hh
    unfold DS.fits at hf
    simp only [Bool.false_eq_true, if_false, Nat.sub_zero] at hf
    rw [if_pos hh] at hf
    cases hf
  refine ⟨h.room, ?_, fun j hj => ?_, h.plan⟩
  · show sumTo (doAppend l d i).len 8 ≤ d.room
    simp only [List.length_append, DS.len] at hu
    unfold doAppend
    omega
  · have := h.syn j hj
    show d.syn j ≤ (doAppend l d i).len j
    unfold doAppend
    rw [len_upd]
    split
    · subst j; rw [List.length_append]; unfold DS.len at this; omega
    · exact this
theorem doReplace_ok {d : DS} (h : d.Ok) {i : Nat} (hi : i < 8) {l : List UInt8} (hf : d.fits true l.length i = 0) : (doReplace l d i).Ok := by
  have hu := used_upd d hi l
  have hr := h.used
  have hli : d.len i ≤ d.used := le_sumTo d.len hi
  have h2 : ¬ d.room < d.used - d.len i + l.length := by
    intro hh
    unfold DS.fits at hf
    simp only [if_true] at hf
    rw [if_pos hh] at hf
    cases hf
  refine ⟨h.room, ?_, fun j hj => ?_, h.plan⟩
  · show sumTo ({ d with data := upd d.data i l } : DS).len 8 ≤ d.room
    omega
  · have := h.syn j hj
    show upd d.syn i l.length j ≤ ({ d with data := upd d.data i l } : DS).len j
    rw [len_upd]
    unfold upd
    split
    · exact Nat.le_refl _
    · exact this
theorem doTruncate_ok {d : DS} (h : d.Ok) {i : Nat} (hi : i < 8) {n : Nat} (hn : n ≤ d.len i) : (doTruncate n d i).Ok := by
  have hu := used_upd d hi ((d.data i).take n)
  have hr := h.used
  have hl : ((d.data i).take n).length = n := by rw [List.length_take]; exact Nat.min_eq_left hn
  refine ⟨h.room, ?_, fun j hj => ?_, h.plan⟩
  · show sumTo ({ d with data := upd d.data i ((d.data i).take n) } : DS).len 8 ≤ d.room
    omega
  · have := h.syn j hj
    show upd d.syn i n j ≤ ({ d with data := upd d.data i ((d.data i).take n) } : DS).len j
    rw [len_upd]
    unfold upd
    split
    · omega
    · exact this
theorem doSync_ok {d : DS} (h : d.Ok) {i : Nat} (hi : i < 8) : (doSync d i).Ok := by
  refine ⟨h.room, h.used, fun j hj => ?_, h.plan⟩
  have := h.syn j hj
  show upd d.syn i (d.len i) j ≤ d.len j
  unfold upd
  split
  · subst j; exact Nat.le_refl _
  · exact this

theorem nothing_do {w : World} {b : Nat} {d : DS} {S : Nat → Prop} (h : DiskIn w b d S) (v : Value) : Calls Try.prog 37 #[v] w (DoEnd w b S d) :=
  (nothing_any v w).mono fun _ _ ⟨he, hw⟩ => ⟨he, S, hw ▸ h, hw ▸ Stp.refl S w⟩

/-- The footprint lies below the heap's end. -/
def FootLt (w : World) (S : Nat → Prop) : Prop := ∀ k, S k → k < w.heap.size

theorem dfoot_upd {b : Nat} {V : Nat → Value} {i : Nat} {v : Value} {S : Nat → Prop} {n : Nat} (hS : ∀ k, dfoot b V k → S k) (hi : i < 8) (hv : v.ownBlock = (V i).ownBlock ∨ ∃ k, v.ownBlock = some k ∧ n ≤ k) : ∀ k, dfoot b (upd V i v) k → S k ∨ n ≤ k := by
  rintro k (hk | ⟨j, hj, hk⟩)
  · exact .inl (hS k (.inl hk))
  · by_cases e : j = i
    · subst e
      rw [upd_same] at hk
      rcases hv with e | ⟨k', e, hk'⟩
      · exact .inl (hS k (.inr ⟨j, hj, by rw [← e]; exact hk⟩))
      · rw [hk] at e; cases e; exact .inr hk'
    · rw [upd_ne _ _ e] at hk
      exact .inl (hS k (.inr ⟨j, hj, hk⟩))

theorem append_do {w : World} {b : Nat} {d : DS} {S : Nat → Prop} (h : DiskIn w b d S) (g : Nat) (x : Value) (l : List UInt8) (hx : Rds w x (bytesV l)) (hg : w.cell? ⟨g, 0, none⟩ = some x) (hl : l.length ≤ lim46) (i : Nat) (hi : i < 8) (hf : d.fits false l.length i = 0) :
    Calls Try.prog 39 #[.pointer (some ⟨b, 1 + i * 2, none⟩), .pointer (some ⟨g, 0, none⟩)] w (DoEnd w b S (doAppend l d i)) := by
  obtain ⟨hok, V, hA, hS⟩ := h
  refine (appender1_any hA ⟨g, 0, none⟩ x l i hi (by have := hok.len hi; unfold lim47; unfold lim46 at hl; omega) hg hx).mono ?_
  rintro e w' ⟨rfl, v, hD, hv, hO⟩
  exact ⟨rfl, dfoot b (upd V i v), ⟨doAppend_ok hok hi hf, _, hD, fun _ h => h⟩, hO.mono fun k _ hk => hS k hk, dfoot_upd hS hi hv⟩

theorem DiskIn.tight {w : World} {b : Nat} {d : DS} {S : Nat → Prop} (h : DiskIn w b d S) : ∃ S0, DiskIn w b d S0 ∧ FootLt w S0 ∧ ∀ k, S0 k → S k := by
  obtain ⟨hok, V, hA, hS⟩ := h
  exact ⟨dfoot b V, ⟨hok, V, hA, fun _ h => h⟩, fun k hk => hA.foot_lt hk, hS⟩

theorem append_gate {w : World} {b : Nat} {d : DS} {S : Nat → Prop} (h : DiskIn w b d S) (hlt : FootLt w S) (at_ : Int) (x : Value) (l : List UInt8) (hx : Rds w x (bytesV l)) (hxS : ∀ k, rdBlock x = some k → ¬ S k) (hl : l.length ≤ lim46) :
    Calls Try.prog 30 #[.pointer (some ⟨b, 0, none⟩), .int .i64 at_, .func (.func 40) #[] #[.pointer (some ⟨w.heap.size + 1, 0, none⟩), .pointer (some ⟨w.heap.size + 1 + 1, 0, none⟩), .pointer (some ⟨w.heap.size + 1 + 2, 0, none⟩)],
        .func (.func 39) #[] #[.pointer (some ⟨w.heap.size, 0, none⟩)], .func (.func 39) #[] #[.pointer (some ⟨w.heap.size, 0, none⟩)]]
      ((((w.alloc (.cells #[x] 23)).alloc (.cells #[.pointer (some ⟨b, 0, none⟩)] 28)).alloc (.cells #[.bool false] 4)).alloc (.cells #[.int .i64 l.length] 3))
      (GateEnd w b S (d.append at_ l)) := by
  have ho : Only (fun _ => False) w ((((w.alloc (.cells #[x] 23)).alloc (.cells #[.pointer (some ⟨b, 0, none⟩)] 28)).alloc (.cells #[.bool false] 4)).alloc (.cells #[.int .i64 l.length] 3)) := ((((Only.refl _ w).alloc _).alloc _).alloc _).alloc _
  have k0 : ((((w.alloc (.cells #[x] 23)).alloc (.cells #[.pointer (some ⟨b, 0, none⟩)] 28)).alloc (.cells #[.bool false] 4)).alloc (.cells #[.int .i64 l.length] 3)).cell? ⟨w.heap.size, 0, none⟩ = some x := by go_simp
  have k1 : ((((w.alloc (.cells #[x] 23)).alloc (.cells #[.pointer (some ⟨b, 0, none⟩)] 28)).alloc (.cells #[.bool false] 4)).alloc (.cells #[.int .i64 l.length] 3)).cell? ⟨w.heap.size + 1, 0, none⟩ = some (.pointer (some ⟨b, 0, none⟩)) := by go_simp
  have k2 : ((((w.alloc (.cells #[x] 23)).alloc (.cells #[.pointer (some ⟨b, 0, none⟩)] 28)).alloc (.cells #[.bool false] 4)).alloc (.cells #[.int .i64 l.length] 3)).cell? ⟨w.heap.size + 1 + 1, 0, none⟩ = some (.bool false) := by go_simp
  have k3 : ((((w.alloc (.cells #[x] 23)).alloc (.cells #[.pointer (some ⟨b, 0, none⟩)] 28)).alloc (.cells #[.bool false] 4)).alloc (.cells #[.int .i64 l.length] 3)).cell? ⟨w.heap.size + 1 + 2, 0, none⟩ = some (.int .i64 l.length) := by go_simp
  generalize ((((w.alloc (.cells #[x] 23)).alloc (.cells #[.pointer (some ⟨b, 0, none⟩)] 28)).alloc (.cells #[.bool false] 4)).alloc (.cells #[.int .i64 l.length] 3)) = W at *
  obtain ⟨hok, V, hA, hS⟩ := h
  have hA' := hA.only ho (fun _ _ => id)
  have hx' := hx.only ho (fun _ _ => id)
  have hdo : ∀ i, i < 8 → d.fits false l.length i = 0 → ∀ w1 d1, DiskIn w1 b d1 S → Only S W w1 → SameFiles d1 d → Calls Try.prog 39 (#[.pointer (some ⟨b, 1 + i * 2, none⟩)] ++ #[.pointer (some ⟨w.heap.size, 0, none⟩)]) w1 (DoEnd w1 b S (doAppend l d1 i)) := fun i hi hf w1 d1 h1 h2 h3 =>
    append_do h1 w.heap.size x l (hx'.only h2 hxS) (h2.cell k0 (fun hs => by have := hlt _ hs; exact Nat.lt_irrefl _ this)) hl i hi (by rw [h3.fits]; exact hf)
  have hfit : ∀ i, i < 8 → Calls Try.prog 40 (#[.pointer (some ⟨b, 1 + i * 2, none⟩)] ++ #[.pointer (some ⟨w.heap.size + 1, 0, none⟩), .pointer (some ⟨w.heap.size + 1 + 1, 0, none⟩), .pointer (some ⟨w.heap.size + 1 + 2, 0, none⟩)]) W fun e w' => e = .returned (.int .i64 (d.fits false l.length i)) ∧ ∃ q, w' = W.drewN q := fun i hi => space1_any hA' hok ⟨w.heap.size + 1, 0, none⟩ ⟨w.heap.size + 1 + 1, 0, none⟩ ⟨w.heap.size + 1 + 2, 0, none⟩ false l.length i hi k1 k2 k3
  have hG := gate_any (S := S) ⟨hok, V, hA', hS⟩ at_ 40 39 39 _ _ _ (d.fits false l.length) (doAppend l) (doAppend l) enter_space1 enter_appender1 enter_appender1 hfit hdo hdo
  refine Calls.mono hG ?_
  rintro e w' ⟨he, S', hd, hs⟩
  exact ⟨he, S', hd, Stp.onlyL ho hs⟩

theorem append_any {w : World} {b : Nat} {d : DS} {S : Nat → Prop} (h : DiskIn w b d S) (hlt : FootLt w S) (at_ : Int) (x : Value) (l : List UInt8) (hx : Rds w x (bytesV l)) (hxS : ∀ k, rdBlock x = some k → ¬ S k) (hl : l.length ≤ lim46) :
    Calls Try.prog 14 #[.pointer (some ⟨b, 0, none⟩), .int .i64 at_, x] w (GateEnd w b S (d.append at_ l)) := by
  have HG := hide (append_gate h hlt at_ x l hx hxS hl)
  obtain ⟨A, n, c, rfl⟩ : ∃ A n c, x = .slice A n c := by obtain ⟨A, c, e, _⟩ := hx; exact ⟨A, _, c, e⟩
  have hn : n = l.length := by obtain ⟨A, c, e, _⟩ := hx; injection e with _ e _; rw [e, bytesV_length]
  subst hn
  clear h hlt hx hxS hl
  go_enter Try.func14, Try.ntmps14
  go_wp2_with (first
    | (go_at_call 29; refine (appender_any _ _ _ _).mono ?_; rintro e w' ⟨rfl, rfl⟩)
    | (go_at_call 31; refine (space_any _ _ _ _).mono ?_; rintro e w' ⟨rfl, rfl⟩)
    | (go_at_call 30; refine HG.out.mono ?_; rintro e w' ⟨rfl, g1⟩))
  go_ret
  exact ⟨rfl, g1⟩

theorem dfoot_sub {b : Nat} {V : Nat → Value} {S : Nat → Prop} (hS : ∀ k, dfoot b V k → S k) {V' : Nat → Value} {n : Nat} (h : ∀ k, dfoot b V' k → dfoot b V k ∨ n ≤ k) : ∀ k, dfoot b V' k → S k ∨ n ≤ k := fun k hk => (h k hk).imp (hS k) id

theorem replace_do {w : World} {b : Nat} {d : DS} {S : Nat → Prop} (h : DiskIn w b d S) (g : Nat) (hgS : ¬ S g) (x : Value) (l : List UInt8) (hx : Rds w x (bytesV l)) (hg : w.cell? ⟨g, 0, none⟩ = some x) (hl : l.length ≤ lim46) (i : Nat) (hi : i < 8) (hf : d.fits true l.length i = 0) :
    Calls Try.prog 42 #[.pointer (some ⟨b, 1 + i * 2, none⟩), .pointer (some ⟨g, 0, none⟩)] w (DoEnd w b S (doReplace l d i)) := by
  obtain ⟨hok, V, hA, hS⟩ := h
  refine (replace1_any hA g (fun e => hgS (hS g (.inl e))) x l i hi (by unfold lim47; unfold lim46 at hl; omega) hg hx).mono ?_
  rintro e w' ⟨rfl, V', hD, hv, hO⟩
  exact ⟨rfl, dfoot b V', ⟨doReplace_ok hok hi hf, _, hD, fun _ h => h⟩, hO.mono fun k _ hk => hS k hk, dfoot_sub hS hv⟩

theorem replace_gate {w : World} {b : Nat} {d : DS} {S : Nat → Prop} (h : DiskIn w b d S) (hlt : FootLt w S) (at_ : Int) (x : Value) (l : List UInt8) (hx : Rds w x (bytesV l)) (hxS : ∀ k, rdBlock x = some k → ¬ S k) (hl : l.length ≤ lim46) :
    Calls Try.prog 30 #[.pointer (some ⟨b, 0, none⟩), .int .i64 at_, .func (.func 40) #[] #[.pointer (some ⟨w.heap.size + 1, 0, none⟩), .pointer (some ⟨w.heap.size + 1 + 1, 0, none⟩), .pointer (some ⟨w.heap.size + 1 + 2, 0, none⟩)],
        .func (.func 42) #[] #[.pointer (some ⟨w.heap.size, 0, none⟩)], .func (.func 37) #[] #[]]
      ((((w.alloc (.cells #[x] 23)).alloc (.cells #[.pointer (some ⟨b, 0, none⟩)] 28)).alloc (.cells #[.bool true] 4)).alloc (.cells #[.int .i64 l.length] 3))
      (GateEnd w b S (d.replace at_ l)) := by
  have ho : Only (fun _ => False) w ((((w.alloc (.cells #[x] 23)).alloc (.cells #[.pointer (some ⟨b, 0, none⟩)] 28)).alloc (.cells #[.bool true] 4)).alloc (.cells #[.int .i64 l.length] 3)) := ((((Only.refl _ w).alloc _).alloc _).alloc _).alloc _
  have k0 : ((((w.alloc (.cells #[x] 23)).alloc (.cells #[.pointer (some ⟨b, 0, none⟩)] 28)).alloc (.cells #[.bool true] 4)).alloc (.cells #[.int .i64 l.length] 3)).cell? ⟨w.heap.size, 0, none⟩ = some x := by go_simp
  have k1 : ((((w.alloc (.cells #[x] 23)).alloc (.cells #[.pointer (some ⟨b, 0, none⟩)] 28)).alloc (.cells #[.bool true] 4)).alloc (.cells #[.int .i64 l.length] 3)).cell? ⟨w.heap.size + 1, 0, none⟩ = some (.pointer (some ⟨b, 0, none⟩)) := by go_simp
  have k2 : ((((w.alloc (.cells #[x] 23)).alloc (.cells #[.pointer (some ⟨b, 0, none⟩)] 28)).alloc (.cells #[.bool true] 4)).alloc (.cells #[.int .i64 l.length] 3)).cell? ⟨w.heap.size + 1 + 1, 0, none⟩ = some (.bool true) := by go_simp
  have k3 : ((((w.alloc (.cells #[x] 23)).alloc (.cells #[.pointer (some ⟨b, 0, none⟩)] 28)).alloc (.cells #[.bool true] 4)).alloc (.cells #[.int .i64 l.length] 3)).cell? ⟨w.heap.size + 1 + 2, 0, none⟩ = some (.int .i64 l.length) := by go_simp
  generalize ((((w.alloc (.cells #[x] 23)).alloc (.cells #[.pointer (some ⟨b, 0, none⟩)] 28)).alloc (.cells #[.bool true] 4)).alloc (.cells #[.int .i64 l.length] 3)) = W at *
  obtain ⟨hok, V, hA, hS⟩ := h
  have hA' := hA.only ho (fun _ _ => id)
  have hx' := hx.only ho (fun _ _ => id)
  have hgS : ¬ S w.heap.size := fun hs => by have := hlt _ hs; exact Nat.lt_irrefl _ this
  have hdo : ∀ i, i < 8 → d.fits true l.length i = 0 → ∀ w1 d1, DiskIn w1 b d1 S → Only S W w1 → SameFiles d1 d → Calls Try.prog 42 (#[.pointer (some ⟨b, 1 + i * 2, none⟩)] ++ #[.pointer (some ⟨w.heap.size, 0, none⟩)]) w1 (DoEnd w1 b S (doReplace l d1 i)) := fun i hi hf w1 d1 h1 h2 h3 =>
    replace_do h1 w.heap.size hgS x l (hx'.only h2 hxS) (h2.cell k0 hgS) hl i hi (by rw [h3.fits]; exact hf)
  have htorn : ∀ i, i < 8 → d.fits true l.length i = 0 → ∀ w1 d1, DiskIn w1 b d1 S → Only S W w1 → SameFiles d1 d → Calls Try.prog 37 (#[.pointer (some ⟨b, 1 + i * 2, none⟩)] ++ #[]) w1 (DoEnd w1 b S (doNothing d1 i)) := fun i hi hf w1 d1 h1 h2 h3 => nothing_do h1 _
  have hfit : ∀ i, i < 8 → Calls Try.prog 40 (#[.pointer (some ⟨b, 1 + i * 2, none⟩)] ++ #[.pointer (some ⟨w.heap.size + 1, 0, none⟩), .pointer (some ⟨w.heap.size + 1 + 1, 0, none⟩), .pointer (some ⟨w.heap.size + 1 + 2, 0, none⟩)]) W fun e w' => e = .returned (.int .i64 (d.fits true l.length i)) ∧ ∃ q, w' = W.drewN q := fun i hi => space1_any hA' hok ⟨w.heap.size + 1, 0, none⟩ ⟨w.heap.size + 1 + 1, 0, none⟩ ⟨w.heap.size + 1 + 2, 0, none⟩ true l.length i hi k1 k2 k3
  have hG := gate_any (S := S) ⟨hok, V, hA', hS⟩ at_ 40 42 37 _ _ _ (d.fits true l.length) (doReplace l) doNothing enter_space1 enter_replace1 enter_nothing hfit hdo htorn
  refine Calls.mono hG ?_
  rintro e w' ⟨he, S', hd, hs⟩
  exact ⟨he, S', hd, Stp.onlyL ho hs⟩

theorem replace_any {w : World} {b : Nat} {d : DS} {S : Nat → Prop} (h : DiskIn w b d S) (hlt : FootLt w S) (at_ : Int) (x : Value) (l : List UInt8) (hx : Rds w x (bytesV l)) (hxS : ∀ k, rdBlock x = some k → ¬ S k) (hl : l.length ≤ lim46) :
    Calls Try.prog 32 #[.pointer (some ⟨b, 0, none⟩), .int .i64 at_, x] w (GateEnd w b S (d.replace at_ l)) := by
  have HG := hide (replace_gate h hlt at_ x l hx hxS hl)
  obtain ⟨A, n, c, rfl⟩ : ∃ A n c, x = .slice A n c := by obtain ⟨A, c, e, _⟩ := hx; exact ⟨A, _, c, e⟩
  have hn : n = l.length := by obtain ⟨A, c, e, _⟩ := hx; injection e with _ e _; rw [e, bytesV_length]
  subst hn
  have hmf : ∀ (fn : Fn) (first cap : Array Value) (w : World), (Instr.makeFunc fn first cap).run Try.prog w = .ok (.func fn first cap) w := fun _ _ _ _ => rfl
  clear h hlt hx hxS hl
  go_enter Try.func32, Try.ntmps32
  go_wp2_with (first
    | (go_at_call 31; refine (space_any _ _ _ _).mono ?_; rintro e w' ⟨rfl, rfl⟩)
    | (go_at_call 30; refine HG.out.mono ?_; rintro e w' ⟨rfl, g1⟩))
  go_ret
  exact ⟨rfl, g1⟩

theorem truncate_do {w : World} {b : Nat} {d : DS} {S : Nat → Prop} (h : DiskIn w b d S) (g : Nat) (hgS : ¬ S g) (n : Int) (hg : w.cell? ⟨g, 0, none⟩ = some (.int .i64 n)) (i : Nat) (hi : i < 8) (hf : d.cut i n = 0) :
    Calls Try.prog 36 #[.pointer (some ⟨b, 1 + i * 2, none⟩), .pointer (some ⟨g, 0, none⟩)] w (DoEnd w b S (doTruncate n.toNat d i)) := by
  obtain ⟨hok, V, hA, hS⟩ := h
  have h1 : 0 ≤ n ∧ n ≤ d.len i := by
    unfold DS.cut at hf
    split at hf
    · cases hf
    · omega
  obtain ⟨m, rfl⟩ := Int.eq_ofNat_of_zero_le h1.1
  have h2 : m ≤ d.len i := by omega
  refine (truncate2_any hA g (fun e => hgS (hS g (.inl e))) m i hi hg h2).mono ?_
  rintro e w' ⟨rfl, V', hD, hv, hO⟩
  exact ⟨rfl, dfoot b V', ⟨doTruncate_ok hok hi h2, _, hD, fun _ h => h⟩, hO.mono fun k _ hk => hS k hk, dfoot_sub hS fun k hk => .inl (hv k hk)⟩

theorem truncate_gate {w : World} {b : Nat} {d : DS} {S : Nat → Prop} (h : DiskIn w b d S) (hlt : FootLt w S) (at_ n : Int) :
    Calls Try.prog 30 #[.pointer (some ⟨b, 0, none⟩), .int .i64 at_, .func (.func 35) #[] #[.pointer (some ⟨w.heap.size, 0, none⟩)],
        .func (.func 36) #[] #[.pointer (some ⟨w.heap.size, 0, none⟩)], .func (.func 37) #[] #[]]
      (w.alloc (.cells #[.int .i64 n] 3))
      (GateEnd w b S (d.truncate at_ n)) := by
  have ho : Only (fun _ => False) w (w.alloc (.cells #[.int .i64 n] 3)) := (Only.refl _ w).alloc _
  have k0 : (w.alloc (.cells #[.int .i64 n] 3)).cell? ⟨w.heap.size, 0, none⟩ = some (.int .i64 n) := by go_simp
  generalize (w.alloc (.cells #[.int .i64 n] 3)) = W at *
  obtain ⟨hok, V, hA, hS⟩ := h
  have hA' := hA.only ho (fun _ _ => id)
  have hgS : ¬ S w.heap.size := fun hs => by have := hlt _ hs; exact Nat.lt_irrefl _ this
  have hdo : ∀ i, i < 8 → d.cut i n = 0 → ∀ w1 d1, DiskIn w1 b d1 S → Only S W w1 → SameFiles d1 d → Calls Try.prog 36 (#[.pointer (some ⟨b, 1 + i * 2, none⟩)] ++ #[.pointer (some ⟨w.heap.size, 0, none⟩)]) w1 (DoEnd w1 b S (doTruncate n.toNat d1 i)) := fun i hi hf w1 d1 h1 h2 h3 =>
    truncate_do h1 w.heap.size hgS n (h2.cell k0 hgS) i hi (by rw [h3.cut]; exact hf)
  have htorn : ∀ i, i < 8 → d.cut i n = 0 → ∀ w1 d1, DiskIn w1 b d1 S → Only S W w1 → SameFiles d1 d → Calls Try.prog 37 (#[.pointer (some ⟨b, 1 + i * 2, none⟩)] ++ #[]) w1 (DoEnd w1 b S (doNothing d1 i)) := fun i hi hf w1 d1 h1 h2 h3 => nothing_do h1 _
  have hfit : ∀ i, i < 8 → Calls Try.prog 35 (#[.pointer (some ⟨b, 1 + i * 2, none⟩)] ++ #[.pointer (some ⟨w.heap.size, 0, none⟩)]) W fun e w' => e = .returned (.int .i64 (d.cut i n)) ∧ ∃ q, w' = W.drewN q := fun i hi => truncate1_any hA' hok ⟨w.heap.size, 0, none⟩ n i hi k0
  have hG := gate_any (S := S) ⟨hok, V, hA', hS⟩ at_ 35 36 37 _ _ _ (fun i => d.cut i n) (doTruncate n.toNat) doNothing enter_truncate1 enter_truncate2 enter_nothing hfit hdo htorn
  refine Calls.mono hG ?_
  rintro e w' ⟨he, S', hd, hs⟩
  exact ⟨he, S', hd, Stp.onlyL ho hs⟩

theorem truncate_any {w : World} {b : Nat} {d : DS} {S : Nat → Prop} (h : DiskIn w b d S) (hlt : FootLt w S) (at_ n : Int) :
    Calls Try.prog 21 #[.pointer (some ⟨b, 0, none⟩), .int .i64 at_, .int .i64 n] w (GateEnd w b S (d.truncate at_ n)) := by
  have HG := hide (truncate_gate h hlt at_ n)
  have hmf : ∀ (fn : Fn) (first cap : Array Value) (w : World), (Instr.makeFunc fn first cap).run Try.prog w = .ok (.func fn first cap) w := fun _ _ _ _ => rfl
  clear h hlt
  go_enter Try.func21, Try.ntmps21
  go_wp2_with (go_at_call 30; refine HG.out.mono ?_; rintro e w' ⟨rfl, g1⟩)
  go_ret
  exact ⟨rfl, g1⟩

theorem sync_do {w : World} {b : Nat} {d : DS} {S : Nat → Prop} (h : DiskIn w b d S) (i : Nat) (hi : i < 8) :
    Calls Try.prog 47 #[.pointer (some ⟨b, 1 + i * 2, none⟩)] w (DoEnd w b S (doSync d i)) := by
  obtain ⟨hok, V, hA, hS⟩ := h
  refine (sync2_any hA i hi).mono ?_
  rintro e w' ⟨rfl, hD, hO⟩
  exact ⟨rfl, dfoot b V, ⟨doSync_ok hok hi, _, hD, fun _ h => h⟩, hO.mono fun k _ hk => hS k hk, fun k hk => .inl (hS k hk)⟩

theorem sync_gate {w : World} {b : Nat} {d : DS} {S : Nat → Prop} (h : DiskIn w b d S) (at_ : Int) :
    Calls Try.prog 30 #[.pointer (some ⟨b, 0, none⟩), .int .i64 at_, .func (.func 46) #[] #[],
        .func (.func 47) #[] #[], .func (.func 37) #[] #[]] w
      (GateEnd w b S (d.sync at_)) := by
  have hdo : ∀ i, i < 8 → (0 : Int) = 0 → ∀ w1 d1, DiskIn w1 b d1 S → Only S w w1 → SameFiles d1 d → Calls Try.prog 47 (#[.pointer (some ⟨b, 1 + i * 2, none⟩)] ++ #[]) w1 (DoEnd w1 b S (doSync d1 i)) := fun i hi hf w1 d1 h1 h2 h3 => sync_do h1 i hi
  have htorn : ∀ i, i < 8 → (0 : Int) = 0 → ∀ w1 d1, DiskIn w1 b d1 S → Only S w w1 → SameFiles d1 d → Calls Try.prog 37 (#[.pointer (some ⟨b, 1 + i * 2, none⟩)] ++ #[]) w1 (DoEnd w1 b S (doNothing d1 i)) := fun i hi hf w1 d1 h1 h2 h3 => nothing_do h1 _
  have hfit : ∀ i, i < 8 → Calls Try.prog 46 (#[.pointer (some ⟨b, 1 + i * 2, none⟩)] ++ #[]) w fun e w' => e = .returned (.int .i64 0) ∧ ∃ q, w' = w.drewN q := fun i hi => (sync1_any _ w).mono fun _ _ ⟨he, hw⟩ => ⟨he, 0, by rw [World.drewN_zero]; exact hw.symm⟩
  exact gate_any h at_ 46 47 37 _ _ _ (fun _ => 0) doSync doNothing enter_sync1 enter_sync2 enter_nothing hfit hdo htorn

theorem sync_any {w : World} {b : Nat} {d : DS} {S : Nat → Prop} (h : DiskIn w b d S) (at_ : Int) :
    Calls Try.prog 38 #[.pointer (some ⟨b, 0, none⟩), .int .i64 at_] w (GateEnd w b S (d.sync at_)) := by
  have HG := hide (sync_gate h at_)
  clear h
  go_enter Try.func38, Try.ntmps38
  go_wp2_with (go_at_call 30; refine HG.out.mono ?_; rintro e w' ⟨rfl, g1⟩)
  go_ret
  exact ⟨rfl, g1⟩

end Go.Proofs.Ytcedenhfchcgiaa
