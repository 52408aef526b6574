/- The disk's Read and Fail, and the functions that it hands to gate. -/
import Derived.Test.YtcedenhfchcgiaaDiskW1
import Derived.Deep.RegionLaw
import Derived.Deep.AppendLies
import Derived.StillTailTactics
import Derived.BigRegion
set_option linter.unusedVariables false
set_option linter.unusedSimpArgs false
namespace Go.Proofs.Ytcedenhfchcgiaa
open Go.RowKit

theorem DiskAt.rds {w : World} {b : Nat} {d : DS} {V : Nat → Value} (h : DiskAt w b d V) {i : Nat} (hi : i < 8) : Rds w (V i) (bytesV (d.data i)) := Rds.own (h.own i hi)

def ReadEnd (w : World) (l : List UInt8) (c : Int) (e : Ending) (w' : World) : Prop :=
  ∃ v, e = .returned (.tuple #[v, .int .i64 c]) ∧ w'.ownsRow 0 5 1 v l.length (bytesV l) ∧ NewB w v ∧ Only (fun _ => False) w w'

theorem read_any {w : World} {b : Nat} {d : DS} {V : Nat → Value} (h : DiskAt w b d V) (hok : d.Ok) (at_ : Int) :
    Calls Try.prog 17 #[.pointer (some ⟨b, 0, none⟩), .int .i64 at_] w (ReadEnd w (if d.code at_ = 0 then d.data at_.toNat else []) (d.code at_)) := by
  have hc := h.cell_off
  have hnil : ∀ c : Int, ReadEnd w [] c (.returned (.tuple #[.slice none 0 0, .int .i64 c])) w := fun c => ⟨_, rfl, World.ownsRow_nil _ _ _ _, .inl rfl, Only.refl _ _⟩
  have HN := hide hnil
  clear hnil
  cases ho : d.off with
  | true =>
    rw [ho] at hc
    have e1 : d.code at_ = 220 := by simp [DS.code, ho]
    rw [e1]
    clear e1 ho h
    go_enter Try.func17, Try.ntmps17
    go_wp2
    go_ret2
    exact HN.out _
  | false =>
    rw [ho] at hc
    by_cases h1 : at_ < 0
    · have e1 : d.code at_ = 1 := by simp [DS.code, ho, h1]
      rw [e1]
      clear e1 ho h
      go_enter Try.func17, Try.ntmps17
      go_wp2
      go_ret2
      exact HN.out _
    · by_cases h2 : 8 ≤ at_
      · have e1 : d.code at_ = 1 := by simp [DS.code, ho, h2]
        rw [e1]
        clear e1 ho h
        go_enter Try.func17, Try.ntmps17
        go_wp2
        go_ret2
        exact HN.out _
      · obtain ⟨k, rfl⟩ := Int.eq_ofNat_of_zero_le (show 0 ≤ at_ by omega)
        have hk : k < 8 := by omega
        have e1 : d.code k = 0 := by simp [DS.code, ho]; omega
        rw [e1]
        have hd := h.cell_data hk
        have hcl := hide (clone_any w (V k) (d.data k) (h.rds hk) (by have := hok.len hk; simp only [DS.len] at this; simp only [lim47]; omega))
        clear e1 ho h HN hok
        go_enter Try.func17, Try.ntmps17
        go_wp2_with (go_at_call 24; refine hcl.out.mono ?_; rintro e w' ⟨v, rfl, g1, g2, g3⟩)
        go_ret2
        exact ⟨v, rfl, by simpa using g1, g2, g3⟩

def DS.fail (d : DS) (n : Int) : DS := if d.off then d else { d with plan := n.toNat }

theorem set_plan' {w : World} {b : Nat} {d : DS} {V : Nat → Value} (h : DiskAt w b d V) {n : Nat} (m : Int) (e : m = n) : DiskAt (w.setCell ⟨b, 17, none⟩ (.int .i64 m)) b { d with plan := n } V := by
  subst e
  exact h.set_plan n
theorem nothing_any (v : Value) (w : World) : Calls Try.prog 37 #[v] w fun e w' => e = .returned (.tuple #[]) ∧ w = w' := by
  go_enter Try.func37, Try.ntmps37
  go_wp2
  go_end0
  exact ⟨rfl, rfl⟩


def DS.fits (d : DS) (drop : Bool) (n : Nat) (i : Nat) : Int := if d.room < d.used - (if drop then d.len i else 0) + n then 221 else 0

theorem space1_any {w : World} {b : Nat} {d : DS} {V : Nat → Value} (h : DiskAt w b d V) (hok : d.Ok) (c1 c2 c3 : Addr) (drop : Bool) (n : Nat) (i : Nat) (hi : i < 8)
    (h1 : w.cell? c1 = some (.pointer (some ⟨b, 0, none⟩))) (h2 : w.cell? c2 = some (.bool drop)) (h3 : w.cell? c3 = some (.int .i64 n)) :
    Calls Try.prog 40 #[.pointer (some ⟨b, 1 + i * 2, none⟩), .pointer (some c1), .pointer (some c2), .pointer (some c3)] w fun e w' => e = .returned (.int .i64 (d.fits drop n i)) ∧ ∃ q, w' = w.drewN q := by
  have hu : d.used ≤ 16777216 := Nat.le_trans hok.used hok.room
  have hl := hok.len hi
  have hul : d.len i ≤ d.used := le_sumTo d.len hi
  have hr := hok.room
  have hc := hide (used_any h hu)
  obtain ⟨A, c, e⟩ := own_form (h.own i hi)
  have hd := h.cell_data hi
  rw [e] at hd
  have hroom := h.cell_room
  clear h e hok
  cases drop with
  | true =>
    have HW := hide (show IntKind.i64.wrap ((d.room : Int) - ((d.used : Int) - (d.len i : Int))) = (d.room : Int) - ((d.used : Int) - (d.len i : Int)) from IntWalk.i64_in _ (by omega))
    by_cases hq : (d.room : Int) - ((d.used : Int) - (d.len i : Int)) < n
    · have hv : d.fits true n i = 221 := by unfold DS.fits; rw [if_pos rfl, if_pos (by omega)]
      rw [hv]
      clear hv
      go_enter Try.func40, Try.ntmps40
      go_wp2_with (go_at_call 41; refine hc.out.mono ?_; rintro e w' ⟨rfl, rfl⟩)
      have hw1 := HW.out
      go_quiet (fail)
      clear hw1
      go_wp2
      go_ret
      exact ⟨rfl, nq, rfl⟩
    · have hv : d.fits true n i = 0 := by unfold DS.fits; rw [if_pos rfl, if_neg (by omega)]
      rw [hv]
      clear hv
      go_enter Try.func40, Try.ntmps40
      go_wp2_with (go_at_call 41; refine hc.out.mono ?_; rintro e w' ⟨rfl, rfl⟩)
      have hw1 := HW.out
      go_quiet (fail)
      clear hw1
      go_wp2
      go_ret
      exact ⟨rfl, nq, rfl⟩
  | false =>
    have HW := hide (show IntKind.i64.wrap ((d.room : Int) - (d.used : Int)) = (d.room : Int) - (d.used : Int) from IntWalk.i64_in _ (by omega))
    by_cases hq : (d.room : Int) - (d.used : Int) < n
    · have hv : d.fits false n i = 221 := by unfold DS.fits; simp only [Bool.false_eq_true, if_false, Nat.sub_zero]; rw [if_pos (by omega)]
      rw [hv]
      clear hv
      go_enter Try.func40, Try.ntmps40
      go_wp2_with (go_at_call 41; refine hc.out.mono ?_; rintro e w' ⟨rfl, rfl⟩)
      have hw1 := HW.out
      go_quiet (fail)
      clear hw1
      go_wp2
      go_ret
      exact ⟨rfl, nq, rfl⟩
    · have hv : d.fits false n i = 0 := by unfold DS.fits; simp only [Bool.false_eq_true, if_false, Nat.sub_zero]; rw [if_neg (by omega)]
      rw [hv]
      clear hv
      go_enter Try.func40, Try.ntmps40
      go_wp2_with (go_at_call 41; refine hc.out.mono ?_; rintro e w' ⟨rfl, rfl⟩)
      have hw1 := HW.out
      go_quiet (fail)
      clear hw1
      go_wp2
      go_ret
      exact ⟨rfl, nq, rfl⟩

/-- space makes three boxes. -/
theorem space_any (w : World) (p : Option Addr) (drop : Bool) (n : Int) :
    Calls Try.prog 31 #[.pointer p, .bool drop, .int .i64 n] w fun e w' => e = .returned (.func (.func 40) #[] #[.pointer (some ⟨w.heap.size, 0, none⟩), .pointer (some ⟨w.heap.size + 1, 0, none⟩), .pointer (some ⟨w.heap.size + 2, 0, none⟩)]) ∧
      w' = ((w.alloc (.cells #[.pointer p] 28)).alloc (.cells #[.bool drop] 4)).alloc (.cells #[.int .i64 n] 3) := by
  have hmf : ∀ (fn : Fn) (first cap : Array Value) (w : World), (Instr.makeFunc fn first cap).run Try.prog w = .ok (.func fn first cap) w := fun _ _ _ _ => rfl
  go_enter Try.func31, Try.ntmps31
  go_wp2
  go_ret
  exact ⟨rfl, rfl⟩

theorem appender_any (w : World) (A : Option Addr) (n c : Nat) :
    Calls Try.prog 29 #[.slice A n c] w fun e w' => e = .returned (.func (.func 39) #[] #[.pointer (some ⟨w.heap.size, 0, none⟩)]) ∧ w' = w.alloc (.cells #[.slice A n c] 23) := by
  have hmf : ∀ (fn : Fn) (first cap : Array Value) (w : World), (Instr.makeFunc fn first cap).run Try.prog w = .ok (.func fn first cap) w := fun _ _ _ _ => rfl
  go_enter Try.func29, Try.ntmps29
  go_wp2
  go_ret
  exact ⟨rfl, rfl⟩

end Go.Proofs.Ytcedenhfchcgiaa
