/- journal.beginning, and the iterator that journal.frames hands out, walked. -/
import Derived.Test.YtcedenhfchcgiaaJn05
import Derived.Test.YtcedenhfchcgiaaRd02d
import Derived.RangeFuncNested
import Derived.RangeFuncBound
import Derived.RangeFuncCalls
import Derived.RangeFuncLeaves
import Derived.Shelf.Abstract
import Derived.Shelf.RegionOpen
import Derived.OwnWalkIn
import Derived.TacticsInMore
import Derived.LoopNIn
import Derived.LoopIn
import Derived.Lib.ConvBytes
import Derived.BigFrameIn
import Derived.Outline
set_option linter.unusedVariables false
set_option linter.unusedSimpArgs false
namespace Go.Proofs.Ytcedenhfchcgiaa.Jn
open Go.RowKit Go.Shelf

set_option maxRecDepth 100000 in
theorem beginning_any {w : World} (x : Value) (l : List UInt8) (hx : Rds w x (bytesV l)) (hl : l.length ≤ 9223372036854775000) (hb : 3 ≤ l.length → ∃ i, i < 3 ∧ (l.getD i 0).toNat < 128) :
    Calls Try.prog 45 #[x] w fun e w' => e = .returned (.bool true) ∧ w' = w := by
  obtain ⟨A, c, rfl, h1, h2, h3, h4, h5⟩ := hx
  rw [bytesV_length] at h1 h4 ⊢
  have HB := hide hb
  have H5 := hide h5
  have H4 := hide h4
  have H3 := hide h3
  have H1 := hide h1
  clear hb h1 h2 h3 h4 h5
  go_enter Try.func45, Try.ntmps45
  go_wp2
  go_loop [7] (fun i => ∃ k : Nat, k ≤ l.length ∧ k ≤ 2 ∧ i = .int .i64 k ∧ Hid (∀ j, j < k → ¬ (l.getD j 0).toNat < 128)) (fun i => l.length - (intOf i).toNat)
  case atStart => exact ⟨0, by omega, by omega, rfl, fun j hj => by omega⟩
  case round =>
    obtain ⟨k, hk, hk2, rfl, hall⟩ := hrel
    by_cases hlt : k < l.length
    · obtain ⟨a, rfl⟩ : ∃ a, A = some a := by
        cases A with
        | none => have := H3.out rfl; have := H1.out; omega
        | some a => exact ⟨a, rfl⟩
      have hsp := H4.out a rfl (by omega)
      have hc := H5.out a rfl k _ (bytesV_get l k hlt)
      rw [addr_eta a hsp] at hc
      obtain ⟨ab, ao, sp⟩ := a
      simp only at hsp hc
      subst hsp
      have hkI : (0 : Int) ≤ k := by omega
      have hkL : (k : Int) < l.length := by omega
      have hg : Hid (l.getD k 0 = l[k]) := by show _ = _; rw [List.getD_eq_getElem?_getD, List.getElem?_eq_getElem hlt]; rfl
      generalize l[k] = z at *
      by_cases hz : (z.toNat : Int) < 128
      · go_wp2
        go_ret
        exact ⟨rfl, rfl⟩
      · have hk3 : k < 2 := by
          rcases Nat.lt_or_ge k 2 with h | h
          · exact h
          · exfalso
            obtain rfl : k = 2 := by omega
            obtain ⟨i, hi, hlow⟩ := HB.out (by omega)
            rcases Nat.lt_or_ge i 2 with h2 | h2
            · exact hall.out i h2 hlow
            · obtain rfl : i = 2 := by omega
              rw [hg.out] at hlow
              omega
        have hk4 : ¬ (k : Int) = 2 := by omega
        go_wp2
        go_round
        case rel =>
          refine ⟨k + 1, by omega, by omega, by go_num, fun j hj => ?_⟩
          by_cases e : j = k
          · subst e; rw [hg.out]; omega
          · exact hall.out j (by omega)
        case measure => simp [intOf]; omega
    · obtain rfl : k = l.length := by omega
      go_wp2
      go_ret
      exact ⟨rfl, rfl⟩

/-- Bytes that were made since w1, and are read. -/
structure FreshB (w1 w2 : World) (v : Value) (l : List UInt8) : Prop where
  row : RowB w2 v l
  only : Only (fun _ => False) w1 w2
  new : ∀ k, v.ownBlock = some k → w1.heap.size ≤ k
theorem conv_fresh (w : World) (l : List UInt8) (hl : l.length ≤ 1000000000) : FreshB w (Lib.bytesWorld w 5 (Cd.strOf l)) (.slice (some ⟨w.heap.size, 0, none⟩) (Cd.strOf l).size (grownCap w (Cd.strOf l).size 0 5)) l := by
  have hz : (Cd.strOf l).size = l.length := Cd.strOf_size l
  have hnew := Lib.bytesWorld_at_new w 5 (Cd.strOf l)
  refine ⟨⟨⟨some ⟨w.heap.size, 0, none⟩, _, by rw [bytesV_length, hz], ?_, ?_, (fun h => by cases h), (fun a ha _ => by cases ha; rfl), fun a ha j u hj => ?_⟩, fun k hk => ?_⟩, ⟨rfl, rfl, rfl, by rw [Lib.bytesWorld_size]; omega, fun k hk _ => Lib.bytesWorld_at_old w _ _ k hk⟩, fun k hk => ?_⟩
  · rw [bytesV_length]; exact grownCap_ge w l.length 0 _
  · exact grownCap_le_maxLen w l.length 0 _ (by simp only [maxLen]; omega)
  · cases ha
    have hj' : j < l.length := by have := (List.getElem?_eq_some_iff.1 hj).1; rwa [bytesV_length] at this
    rw [addr_eta _ rfl]
    simp only [Nat.zero_add]
    rw [Lib.bytesWorld_cell w _ _ j (by rw [hz]; exact hj'), strOf_data']
    rw [bytesV_get l j hj'] at hj
    rw [← hj, List.getD_eq_getElem?_getD, List.getElem?_eq_getElem hj']
    rfl
  · cases hk
    exact ⟨_, _, hnew⟩
  · cases hk
    exact Nat.le_refl _

theorem slice_u8_lo (A : Option Addr) (n c i : Nat) (W : World) (x : Int) (hx : x = i) (hij : i ≤ n) : (Instr.slice 23 (.slice A n c) (some (.int .i64 x)) none none).run Try.prog W = .ok (sliced A i n c 1) W := by
  subst hx
  have hsz : Try.prog.info? (Try.prog.elem 23) = Try.prog.info? 5 := by kernel_rfl
  obtain ⟨i0, hi, hz0, hz1, hz2⟩ := info_parts Cd.info_u8
  rw [run_slice_l (w := W) (t := 23) (a := A) (len := n) (cap := c) (ht := by kernel_rfl) .i64 i (by omega) (by omega)]
  simp [sizeOf, typeInfo, hsz, hi, hz1]

/-- The end of a scan at a torn record. -/
abbrev haltE (n : Nat) : Ending := .panicked [{ v := .iface 59 (.agg #[.int .i64 n, .bool false]), recovered := false }]
theorem torn_drop {recs : List (List UInt8)} {rest : List UInt8} : (framesB recs ++ rest).drop (endAt recs recs.length) = rest := by rw [endAt_all, List.drop_left]

/-- How the iterator ends: it has come to the end, or to a torn record. -/
def IterEnd (recs : List (List UInt8)) (rest : List UInt8) (J : World → Prop) (e : Ending) (W' : World) : Prop :=
  J W' ∧ ((rest = [] ∧ e = .returned (.tuple #[])) ∨ (rest ≠ [] ∧ e = haltE (framesB recs).length))

set_option maxRecDepth 100000 in
set_option maxHeartbeats 2000000 in
theorem iter_any (l g : Nat) (b : Value) (recs : List (List UInt8)) (rest : List UInt8) (J : Nat → World → Prop) (hs : Small recs) (ht : Torn rest) (hbl : (framesB recs ++ rest).length ≤ 1000000000)
    (hJb : ∀ k W, J k W → W.cell? ⟨g, 0, none⟩ = some b ∧ Rds W b (bytesV (framesB recs ++ rest)))
    (hJg : ∀ k W W', J k W → Only (fun _ => False) W W' → J k W')
    (hY : ∀ k W0 W v, k < recs.length → J k W0 → FreshB W0 W v (recs.getD k []) → YieldAt Fence.wide 1 Try.prog l #[.int .i64 (endAt recs (k + 1)), v] W fun e W' => e = .returned (.bool true) ∧ J (k + 1) W')
    (W : World) (h0 : J 0 W) :
    CallsIn Fence.wide 2 Try.prog 43 #[.func (.yield l) #[] #[], .pointer (some ⟨g, 0, none⟩)] W (IterEnd recs rest (J recs.length)) := by
  obtain ⟨A, n, c, rfl⟩ := Cd.rds_form (hJb 0 W h0).2
  have hn : n = (framesB recs ++ rest).length := by obtain ⟨A, c, e, _⟩ := (hJb 0 W h0).2; injection e with _ e _; rw [e, bytesV_length]
  have HN := hide hn
  have HS := hide hs
  have HT := hide ht
  have HBL := hide hbl
  have HJb := hide hJb
  have HJg := hide hJg
  have HY := hide hY
  have H0 := hide h0
  clear hs ht hbl hJb hJg hY h0 hn
  refine callsIn_of_wp Try.func43 rfl trivial ?_ rfl
  simp only [Try.ntmps43, List.size_toArray, List.length_cons, List.length_nil, Nat.reduceAdd, Nat.reduceSub, Array.replicate_succ, Array.replicate_zero, List.push_toArray, List.append_toArray, List.nil_append, List.cons_append]
  gi_wp2
  gi_loopw [3] (fun p wr => ∃ k : Nat, k ≤ recs.length ∧ p = .int .i64 (endAt recs k) ∧ Hid (J k wr)) (fun p _ => n - (intOf p).toNat)
  case atStart => exact ⟨0, by omega, rfl, H0⟩
  case round =>
    obtain ⟨k, hk, rfl, HJ⟩ := hrel
    obtain ⟨hcell, hrds⟩ := HJb.out k wr HJ.out
    have hlen := endAt_le recs rest k hk
    have HTx := hide (Cd.Text_in (w := wr) (.slice A n c) (framesB recs ++ rest) (endAt recs k) hrds (fun x hx => Cd.rds_lt hrds hx) (by have := HBL.out; omega) hlen 1048576 (by omega))
    rw [show ((1048576 : Nat) : Int) = 1048576 from rfl] at HTx
    by_cases hlt : k < recs.length
    · have hlt2 := endAt_lt hlt rest
      rw [text_at HS.out hlt] at HTx
      have hI : (endAt recs k : Int) < n := by rw [HN.out]; omega
      have hE := hide (endAt_succ hlt)
      have hrl := hide (HS.out k hlt)
      have HLT := hide hlt
      clear hlt2 hrds hlen hlt hk
      have hcv := fun W => Lib.run_convert_string_bytes (P := Try.prog) W 9 23 5 (Cd.strOf (recs.getD k [])) Try.underlying9 Try.underlying23 Try.underlying5
      obtain ⟨r, hr⟩ : ∃ r, recs.getD k [] = r := ⟨_, rfl⟩
      have HR := hide hr
      rw [hr] at hcv HTx hrl
      simp only at HTx
      clear hr
      gi_wp2_with fail
      refine ⟨trivial, ?_⟩
      refine (callsIn_wide.2 HTx.out).mono ?_
      rintro e w2 ⟨rfl, hO⟩
      have hJ2 := hide (HJg.out k wr w2 HJ.out hO)
      obtain ⟨fn, tm, asg, bd, hy, hR⟩ := HY.out k w2 (Lib.bytesWorld w2 5 (Cd.strOf r)) _ HLT.out hJ2.out (by rw [HR.out]; exact conv_fresh w2 r (by have := hrl.out; omega))
      have HRd := hide hR
      clear hR hO
      gi_wp2
      refine HRd.out.mono ?_
      rintro e W3 ⟨rfl, hJ3⟩
      have HJ3 := hide hJ3
      clear hJ3
      gi_wp2
      go_roundw
      case rel => exact ⟨k + 1, HLT.out, rfl, HJ3⟩
      case measure =>
        have h1 := hE.out
        have h2 := frame_pos (recs.getD k [])
        simp [intOf]
        omega
    · obtain rfl : k = recs.length := by omega
      by_cases hr : rest = []
      · have hI : ¬ (endAt recs recs.length : Int) < n := by rw [HN.out, hr, endAt_all]; simp
        clear hrds hlen HTx hlt hk
        gi_wp2
        go_end0
        exact ⟨HJ.out, .inl ⟨rfl, rfl⟩⟩
      · have hpos : 0 < rest.length := List.length_pos_iff.2 hr
        have hI : (endAt recs recs.length : Int) < n := by rw [HN.out, endAt_all, List.length_append]; omega
        rw [text_torn HT.out] at HTx
        have hsl : ∀ W, (Instr.slice 23 (.slice A n c) (some (.int .i64 (endAt recs recs.length : Int))) none none).run Try.prog W = .ok (sliced A (endAt recs recs.length) n c 1) W := fun W => slice_u8_lo A n c _ W _ rfl (by omega)
        have HR := hide hr
        have HB := hide (fun (w2 : World) (ho : Only (fun _ => False) wr w2) => beginning_any (w := w2) (sliced A (endAt recs recs.length) n c 1) rest
          (by
            have h1 := Cd.rds_slice (hrds.only ho fun _ _ => id) (i := endAt recs recs.length) (j := (framesB recs ++ rest).length) hlen (Nat.le_refl _)
            rw [← HN.out] at h1
            rw [torn_drop, List.take_of_length_le (by rw [HN.out, endAt_all, List.length_append]; omega)] at h1
            exact h1)
          (by have := torn_len HT.out; omega) (torn_hit HT.out))
        have HE := hide (endAt_all recs)
        obtain ⟨A3, n3, c3, h3⟩ : ∃ A3 n3 c3, sliced A (endAt recs recs.length) n c 1 = .slice A3 n3 c3 := ⟨_, _, _, rfl⟩
        rw [h3] at hsl HB
        clear hrds hlen hlt hk h3 hr hpos
        gi_wp2_with fail
        refine ⟨trivial, ?_⟩
        refine (callsIn_wide.2 HTx.out).mono ?_
        rintro e w2 ⟨rfl, hO⟩
        have hc2 := hO.cell hcell id
        have HO := hide hO
        clear hO hcell
        gi_wp2_with fail
        refine ⟨trivial, ?_⟩
        refine (callsIn_wide.2 (HB.out w2 HO.out)).mono ?_
        rintro e w3 ⟨rfl, rfl⟩
        gi_wp2
        refine ⟨rfl, HJg.out _ _ _ HJ.out HO.out, .inr ⟨HR.out, ?_⟩⟩
        rw [← HE.out]

end Go.Proofs.Ytcedenhfchcgiaa.Jn
