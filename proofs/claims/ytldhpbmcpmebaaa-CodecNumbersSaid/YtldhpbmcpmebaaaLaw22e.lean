/- made and begun, walked. -/
import Derived.Test.YtldhpbmcpmebaaaLaw22d
set_option linter.unusedVariables false
set_option linter.unusedSimpArgs false
namespace Go.Proofs.Ytldhpbmcpmebaaa
open Go.RowKit

theorem new_in (w : World) (room : Nat) (h : room ≤ 16777216) : DiskIn (w.alloc (.cells (diskArr (DS.new room) (fun _ => .slice none 0 0)) 82)) w.heap.size (DS.new room) (fun k => k = w.heap.size) ∧ FootLt (w.alloc (.cells (diskArr (DS.new room) (fun _ => .slice none 0 0)) 82)) (fun k => k = w.heap.size) := by
  refine ⟨⟨⟨h, ?_, fun i _ => Nat.zero_le _, Nat.zero_le _⟩, _, new_at w room, ?_⟩, ?_⟩
  · show sumTo (DS.new room).len 8 ≤ room
    have : sumTo (DS.new room).len 8 = 0 := rfl
    omega
  · rintro k (hk | ⟨i, hi, hk⟩)
    · exact hk
    · cases hk
  · intro k hk
    subst hk
    simp
theorem gate_tight {w : World} {b : Nat} {S : Nat → Prop} {r : DS × Int} {e : Ending} {w' : World} (h : GateEnd w b S r e w') : e = .returned (.int .i64 r.2) ∧ ∃ S', DiskIn w' b r.1 S' ∧ FootLt w' S' ∧ Stp S w w' S' := by
  obtain ⟨he, S', hd, hs⟩ := h
  obtain ⟨S0, hd0, hl, hsub⟩ := hd.tight
  exact ⟨he, S0, hd0, hl, hs.only, fun k hk => hs.foot k (hsub k hk)⟩
theorem do_tight {w : World} {b : Nat} {S : Nat → Prop} {d : DS} {e : Ending} {w' : World} (h : DoEnd w b S d e w') : e = .returned (.tuple #[]) ∧ ∃ S', DiskIn w' b d S' ∧ FootLt w' S' ∧ Stp S w w' S' := by
  obtain ⟨he, S', hd, hs⟩ := h
  obtain ⟨S0, hd0, hl, hsub⟩ := hd.tight
  exact ⟨he, S0, hd0, hl, hs.only, fun k hk => hs.foot k (hsub k hk)⟩

theorem made_any (w : World) (room : Nat) (h : room ≤ 65535) :
    Calls Try.prog 32 #[.int .u16 room] w fun e w' => e = .returned (.pointer (some ⟨w.heap.size, 0, none⟩)) ∧ w' = w.alloc (.cells (diskArr (DS.new (room % 4001)) (fun _ => .slice none 0 0)) 82) := by
  have HN := hide (new_any w ((room : Int) % 4001) (by omega) (by omega))
  have e1 : ((room : Int) % 4001).toNat = room % 4001 := by omega
  rw [e1] at HN
  go_enter Try.func32, Try.ntmps32
  go_wp2_with (go_at_call 13; refine HN.out.mono ?_; rintro e w1 ⟨rfl, rfl⟩)
  go_ret
  exact ⟨rfl, rfl⟩

/-- A new block of bytes reads as they are. -/
theorem rds_lit (w : World) (l : List UInt8) (fr : Nat × Nat) (hl : l.length ≤ 1000) : Rds (w.alloc (.cells (bytesV l).toArray 5 fr)) (.slice (some ⟨w.heap.size, 0, none⟩) l.length l.length) (bytesV l) := by
  refine ⟨_, l.length, by rw [bytesV_length], by rw [bytesV_length]; exact Nat.le_refl _, by simp only [maxLen]; omega, (fun h => by cases h), (fun a h _ => by cases h; rfl), fun a h j u hj => ?_⟩
  cases h
  rw [addr_eta _ rfl]
  simp only [Nat.zero_add]
  rw [cell_of_heap (heap_alloc_new w _)]
  simpa using hj

/-- A disk, and how it has come about. -/
structure Held (w : World) (b : Nat) (d : DS) (S : Nat → Prop) : Prop where
  disk : DiskIn w b d S
  lt : FootLt w S
theorem Held.alloc {w : World} {b : Nat} {d : DS} {S : Nat → Prop} (h : Held w b d S) (o : Obj) : Held (w.alloc o) b d S := by
  obtain ⟨⟨hok, V, hA, hS⟩, hl⟩ := h
  exact ⟨⟨hok, V, hA.only ((Only.refl (fun _ => False) w).alloc o) (fun _ _ => id), hS⟩, fun k hk => Nat.lt_of_lt_of_le (hl k hk) (by simp)⟩

theorem new_held (w : World) (room : Int) (h0 : 0 ≤ room) (h1 : room ≤ 16777216) :
    Calls Try.prog 13 #[.int .i64 room] w fun e w' => ∃ b S, e = .returned (.tuple #[.pointer (some ⟨b, 0, none⟩), .int .i64 0]) ∧ Held w' b (DS.new room.toNat) S ∧ Only (fun _ => False) w w' ∧ ∀ k, S k → w.heap.size ≤ k := by
  refine (new_any w room h0 h1).mono ?_
  rintro e w' ⟨rfl, rfl⟩
  have h := new_in w room.toNat (by omega)
  exact ⟨_, _, rfl, ⟨h.1, h.2⟩, (Only.refl _ w).alloc _, fun k hk => by subst hk; exact Nat.le_refl _⟩
theorem made_held (w : World) (room : Nat) (h : room ≤ 65535) :
    Calls Try.prog 32 #[.int .u16 room] w fun e w' => ∃ b S, e = .returned (.pointer (some ⟨b, 0, none⟩)) ∧ Held w' b (DS.new (room % 4001)) S ∧ Only (fun _ => False) w w' ∧ ∀ k, S k → w.heap.size ≤ k := by
  refine (made_any w room h).mono ?_
  rintro e w' ⟨rfl, rfl⟩
  have h := new_in w (room % 4001) (by omega)
  exact ⟨_, _, rfl, ⟨h.1, h.2⟩, (Only.refl _ w).alloc _, fun k hk => by subst hk; exact Nat.le_refl _⟩

/-- append of a new block of bytes. -/
theorem append_lit {w : World} {b : Nat} {d : DS} {S : Nat → Prop} (h : Held w b d S) (at_ : Int) (l : List UInt8) (fr : Nat × Nat) (hl : l.length ≤ 1000) :
    Calls Try.prog 21 #[.pointer (some ⟨b, 0, none⟩), .int .i64 at_, .slice (some ⟨w.heap.size, 0, none⟩) l.length l.length] (w.alloc (.cells (bytesV l).toArray 5 fr)) fun e w' => e = .returned (.int .i64 (d.append at_ l).2) ∧ ∃ S', Held w' b (d.append at_ l).1 S' ∧ Stp S w w' S' := by
  have ho : Only (fun _ => False) w (w.alloc (.cells (bytesV l).toArray 5 fr)) := (Only.refl _ w).alloc _
  have h1 := h.alloc (.cells (bytesV l).toArray 5 fr)
  refine (append_any h1.disk h1.lt at_ _ l (rds_lit w l fr hl) (fun k hk hs => ?_) (by unfold lim46; omega)).mono ?_
  · cases rdBlock_own hk
    exact Nat.lt_irrefl _ (h.lt _ hs)
  · intro e w' he
    obtain ⟨rfl, S', hd, hl', hs⟩ := gate_tight he
    exact ⟨rfl, S', ⟨hd, hl'⟩, Stp.onlyL ho hs⟩

def b0 : DS := DS.new 3
def b1 : DS := (b0.append 0 [97, 98]).1
def b2 : DS := (b1.sync 0).1
def b3 : DS := (b2.append 0 [99]).1
def b4 : DS := (b3.append 1 [100]).1
def b5 : DS := b4.crash []
theorem b1_code : (b0.append 0 [97, 98]).2 = 0 := by decide
theorem b2_code : (b1.sync 0).2 = 0 := by decide
theorem b3_code : (b2.append 0 [99]).2 = 0 := by decide
theorem b4_code : (b3.append 1 [100]).2 = 221 := by decide
theorem b5_code : b5.code 0 = 0 := by decide
theorem b5_data : b5.data 0 = [97, 98] := by decide

end Go.Proofs.Ytldhpbmcpmebaaa
