/- DiskRooms, walked: for every room the program's New and the reference's agree. -/
import Derived.Test.YtldhpbmcpmebaaaLaw22f
set_option linter.unusedVariables false
set_option linter.unusedSimpArgs false
namespace Go.Proofs.Ytldhpbmcpmebaaa
open Go.RowKit

theorem refnew_ok (w : World) (room : Int) (h0 : 0 ≤ room) (h1 : room ≤ 16777216) :
    Calls Try.prog 14 #[.int .i64 room] w fun e w' => ∃ p, e = .returned (.tuple #[.pointer (some p), .int .i64 0]) ∧ Only (fun _ => False) w w' := by
  go_enter Try.func14, Try.ntmps14
  go_wp2
  go_ret2
  exact ⟨_, rfl, (Only.refl _ w).alloc _⟩
theorem refnew_bad (w : World) (room : Int) (h : room < 0 ∨ 16777216 < room) :
    Calls Try.prog 14 #[.int .i64 room] w fun e w' => e = .returned (.tuple #[.pointer none, .int .i64 1]) ∧ w = w' := by
  rcases h with h | h
  · go_enter Try.func14, Try.ntmps14
    go_wp2
    go_ret2
    exact ⟨rfl, rfl⟩
  · have h2 : ¬ room < 0 := by omega
    go_enter Try.func14, Try.ntmps14
    go_wp2
    go_ret2
    exact ⟨rfl, rfl⟩
theorem new_bad' (w : World) (room : Int) (h : room < 0 ∨ 16777216 < room) :
    Calls Try.prog 13 #[.int .i64 room] w fun e w' => e = .returned (.tuple #[.pointer none, .int .i64 1]) ∧ w = w' := (new_bad w room h).mono fun _ _ ⟨h1, h2⟩ => ⟨h1, h2.symm⟩

def roomAt (room : Int) (k : Nat) : Int := [room, 0, -1, 16777216, 16777217].getD k 0

set_option maxRecDepth 100000 in
set_option maxHeartbeats 1000000 in
theorem diskRooms_any (w : World) (room : Int) : Calls Try.prog 3 #[.int .i64 room] w fun e w' => e = .returned (.bool true) ∧ Only (fun _ => False) w w' := by
  have hcell : Hid (∀ k, k < 5 → (w.alloc (.cells #[.int .i64 room, .int .i64 0, .int .i64 (-1), .int .i64 16777216, .int .i64 16777217] 3)).cell? ⟨w.heap.size, k, none⟩ = some (.int .i64 (roomAt room k))) := fun k hk => by
    rw [cell_of_heap (heap_alloc_new w _)]
    have : k = 0 ∨ k = 1 ∨ k = 2 ∨ k = 3 ∨ k = 4 := by omega
    rcases this with rfl | rfl | rfl | rfl | rfl <;> rfl
  have hsz : Hid ((w.alloc (.cells #[.int .i64 room, .int .i64 0, .int .i64 (-1), .int .i64 16777216, .int .i64 16777217] 3)).heap.size = w.heap.size + 1) := by show _ = _; simp
  have h0 := hide ((Only.refl (fun _ => False) w).alloc (.cells #[.int .i64 room, .int .i64 0, .int .i64 (-1), .int .i64 16777216, .int .i64 16777217] 3))
  go_enter Try.func3, Try.ntmps3
  go_wp2
  go_loopw [12] (fun i wr => ∃ k : Nat, k ≤ 5 ∧ i = .int .i64 k ∧ Only (fun _ => False) (w.alloc (.cells #[.int .i64 room, .int .i64 0, .int .i64 (-1), .int .i64 16777216, .int .i64 16777217] 3)) wr) (fun i _ => 5 - (intOf i).toNat)
  case atStart => exact ⟨0, by omega, rfl, Only.refl _ _⟩
  case round =>
    obtain ⟨k, hk, rfl, hO⟩ := hrel
    by_cases hlt : k < 5
    · have hc := hO.cell (hcell.out k hlt) id
      have HO := hide hO
      clear hO
      generalize roomAt room k = n at hc
      by_cases hn : 0 ≤ n ∧ n ≤ 16777216
      · have HN := hide (new_held wr n hn.1 hn.2)
        go_wp2_with (first
          | go_at_call 13; refine HN.out.mono ?_; rintro e w1 ⟨b, S0, rfl, h1, h2, h3⟩; have A0 := hide h1; have O0 := hide h2; clear h1 h2 h3
          | (go_at_call 14; refine (refnew_ok _ n hn.1 hn.2).mono ?_; rintro e w2 ⟨p, rfl, h1⟩; have O1 := hide h1; have A1 := hide (show Held w2 b (DS.new n.toNat) S0 from by
              obtain ⟨⟨hok, V, hA, hS⟩, hl⟩ := A0.out
              exact ⟨⟨hok, V, hA.only h1 (fun _ _ => id), hS⟩, fun k hk => Nat.lt_of_lt_of_le (hl k hk) h1.size⟩); clear h1))
        obtain ⟨⟨hok, V, hA, hS⟩, hl⟩ := A1.out
        have hu : (DS.new n.toNat).used = 0 := rfl
        have C1 := used_any hA (by rw [hu]; omega)
        rw [hu] at C1
        have C2 := off_any hA
        have e2 : (DS.new n.toNat).off = false := rfl
        rw [e2] at C2
        have D1 := hide C1
        have D2 := hide C2
        clear C1 C2 hok hA hS hl hu e2
        refine D1.out.mono ?_
        rintro e w3 ⟨rfl, rfl⟩
        go_wp2_with (go_at_call 16; refine D2.out.mono ?_; rintro e w3 ⟨rfl, rfl⟩)
        go_roundw
        case rel => exact ⟨k + 1, by omega, by go_num, (HO.out.trans' O0.out).trans' O1.out⟩
        case measure => simp [intOf]; omega
      · have hn' : n < 0 ∨ 16777216 < n := by omega
        have HN' := hide hn'
        clear hn hn'
        go_wp2_with (first
          | go_at_call 13; refine (new_bad' _ n HN'.out).mono ?_; rintro e w1 ⟨rfl, rfl⟩
          | (go_at_call 14; refine (refnew_bad _ n HN'.out).mono ?_; rintro e w2 ⟨rfl, rfl⟩))
        go_roundw
        case rel => exact ⟨k + 1, by omega, by go_num, HO.out⟩
        case measure => simp [intOf]; omega
    · obtain rfl : k = 5 := by omega
      have HO := hide hO
      clear hO
      go_wp2_with (go_at_call 17; refine (begun22_any _).mono ?_; rintro e w1 ⟨rfl, h1⟩; have O1 := hide h1; clear h1)
      go_ret
      exact ⟨rfl, (h0.out.trans' HO.out).trans' O1.out⟩

end Go.Proofs.Ytldhpbmcpmebaaa
