/- JournalTorn, walked. -/
import Derived.Test.YtcedenhfchcgiaaJn14
set_option linter.unusedVariables false
set_option linter.unusedSimpArgs false
namespace Go.Proofs.Ytcedenhfchcgiaa.Jn
open Go.RowKit Go.Shelf

theorem fresh_after {w w1 w2 : World} {v : Value} {l : List UInt8} (ho : Only (fun _ => False) w w1) (h : Cd.Fresh w1 w2 v l) : Cd.Fresh w w2 v l := ⟨h.own, ho.trans' h.only, fun k hk => Nat.le_trans ho.size (h.new k hk)⟩

theorem RdRecs.take {w : World} {A : Option Addr} {n : Nat} {recs : List (List UInt8)} {T : Nat → Prop} (h : RdRecs w A n recs T) {j : Nat} (hj : j ≤ recs.length) : RdRecs w A j (recs.take j) T := by
  refine ⟨by rw [List.length_take]; omega, fun i hi => ?_⟩
  rw [List.length_take] at hi
  rw [getD_take (by omega)]
  exact h.at_ i (by omega)

set_option maxRecDepth 100000 in
set_option maxHeartbeats 8000000 in
theorem journalTorn_any {w : World} (A : Option Addr) (n c : Nat) (at_ : Nat) (hat : at_ ≤ 65535) (recs : List (List UInt8)) {T : Nat → Prop} (h : RdRecs w A n recs T) (hnc : n ≤ c) (hn : n ≤ 9223372036854775807) :
    Calls Try.prog 4 #[.slice A n c, .int .u16 at_] w fun e w' => e = .returned (.bool true) ∧ Only (fun _ => False) w w' := by
  have HCut := hide (cut_any A n c recs h hnc hn)
  have hfl : ∀ (W : World) (X : Option Addr) (m cc : Nat), (Instr.field 26 (.agg #[.int .i64 0, .int .i64 0, .slice none 0 0, .slice X m cc, .slice none 0 0]) 3).run Try.prog W = .ok (.slice X m cc) W := fun _ _ _ _ => by kernel_rfl
  clear h hnc hn
  go_enter Try.func4, Try.ntmps4
  go_wp2_with fail
  refine HCut.out.mono ?_
  rintro e w1 ⟨A1, c1, rfl, hrd, hO1, hc1⟩
  have hl8 := cutR_len recs
  have hsm : ∀ i, i < (cutR recs).length → ((cutR recs).getD i []).length ≤ 300 := fun i _ => cutR_small recs i
  generalize cutR recs = rs at *
  have HX := hide (And.intro hrd hsm)
  have O1 := hide hO1
  have hfr := frames_bound 8 hsm hl8
  have HFr := hide hfr
  clear hrd hO1 hsm hfr
  go_wp2
  go_loopw [5, 6, 24] (fun v ev i wr => ∃ k : Nat, k ≤ rs.length ∧ i = .int .i64 k ∧ Hid (Cd.Fresh w1 wr v (framesB (rs.take k))) ∧ Hid (EndsZ w1 wr ev rs k)) (fun _ _ i _ => rs.length - (intOf i).toNat)
  case atStart => exact ⟨0, by omega, rfl, hide (fresh_after ((Only.refl _ w1).alloc _) (Cd.Fresh.nil _)), hide (EndsZ.start w1 rs)⟩
  case round =>
    obtain ⟨k, hk, rfl, HF, HE⟩ := hrel
    obtain ⟨Es1, hE1, hE2⟩ := HE.out.own
    obtain ⟨EA, em, ec, rfl⟩ := own_form' hE1
    obtain rfl := (Cd.own_n hE1)
    obtain ⟨BA, bm, bcc, rfl⟩ := own_form' HF.out.own
    have HE1 := hide hE1
    have HE2 := hide hE2
    clear hE1 hE2
    by_cases hlt : k < rs.length
    · obtain ⟨ab, ao, V, rfl, hT, hcell, hV, -⟩ := (HX.out.1.grow HF.out.only).at_ k hlt
      have hrl := HX.out.2 k hlt
      have HTk : Hid (framesB (rs.take k) ++ Cd.leb (Cd.strOf (rs.getD k [])).size ++ (Cd.strOf (rs.getD k [])).data.toList = framesB (rs.take (k + 1))) := by
        show _ = _
        rw [take_succ_recs hlt, framesB_append, framesB_one, Cd.strOf_size, strOf_data']
        unfold frameB
        rw [List.append_assoc]
      generalize rs.getD k [] = r at hV hrl HTk
      obtain ⟨VA, vn, vc, rfl⟩ := Cd.rds_form hV
      have hcv := Cd.run_str hV
      have HA := hide (Cd.appendText_any (w := wr) (.slice BA bm bcc) (framesB (rs.take k)) HF.out.rds (by have := frames_take_le rs k; have := HFr.out; omega) (Cd.strOf r) (by rw [Cd.strOf_size]; omega))
      rw [HTk.out] at HA
      have HLT := hide hlt
      obtain ⟨lz, hlz⟩ : ∃ z, framesB (rs.take (k + 1)) = z := ⟨_, rfl⟩
      have HLZ := hide hlz
      rw [hlz] at HA
      clear HTk hrl hT hV hlz
      go_wp2_with fail
      refine HA.out.mono ?_
      rintro e w2 ⟨v2, rfl, F2⟩
      obtain ⟨B2, b2, bc2, rfl⟩ := own_form' F2.own
      obtain rfl := (Cd.own_n F2.own).symm
      have HF2 : Hid (Cd.Fresh w1 w2 (.slice B2 lz.length bc2) lz) := ⟨F2.own, HF.out.only.trans' F2.only, fun x hx => Nat.le_trans HF.out.only.size (F2.new x hx)⟩
      have HE3 := hide (HE.out.grow F2.only)
      have HE4 := hide (F2.only.owns HE1.out fun _ _ => id)
      have P2 := hide ((Only.refl (fun _ => False) w2).alloc (.cells #[.int .i64 lz.length] 3))
      clear F2
      go_wp2_with (at_builtin; refine wp_int rfl _ _ rfl (.slice EA (k + 1) ec) (k + 1) Es1 rfl (P2.out.owns HE4.out fun _ _ => id) _ rfl (.int .i64 lz.length) (src_int w2 _ (by first | rfl | simp) _) (by omega) ?_; intro v5 w5 g1 g2 g3; have HE5 := hide (EndsZ.push (HE3.out.grow P2.out) (P2.out.owns HE4.out fun _ _ => id) HE2.out (by rw [← HLZ.out]; rfl) (Nat.le_trans HF2.out.only.size P2.out.size) g1 g3); have HO5 : Hid (Only (fun x => (Value.slice EA (k + 1) ec).ownBlock = some x) w2 w5) := (P2.out.mono fun _ _ h => h.elim).grown g2 fun x hx => .inl hx; clear g1 g2 g3)
      go_roundw
      case rel =>
        refine ⟨k + 1, HLT.out, by go_num, hide ?_, HE5⟩
        rw [HLZ.out]
        exact ⟨HO5.out.owns HF2.out.own fun x hx e => own_own HE4.out HF2.out.own tags_iu x hx e, (HF2.out.only).trans HO5.out fun x hx e => by have := HE.out.new x e; omega, HF2.out.new⟩
      case measure => simp [intOf]; omega
    · obtain rfl : k = rs.length := by omega
      rw [List.take_length] at HF
      obtain ⟨lz, hlz⟩ : ∃ z, framesB rs = z := ⟨_, rfl⟩
      have HLZ := hide hlz
      have hbm := Cd.own_n (by have := HF.out.own; rw [hlz] at this; exact this)
      have hbl : bm ≤ 2480 := by have := HFr.out; rw [hlz] at this; omega
      have hbc : bm ≤ bcc := by obtain ⟨_, _, e, he⟩ := Cd.own_form_le HF.out.own; injection e with e1 e2 e3; rw [← e3] at he; rw [hlz] at he; omega
      rw [hlz] at HF
      obtain ⟨q, hq⟩ : ∃ q, at_ % (bm + 1) = q := ⟨_, rfl⟩
      have hqm : q ≤ bm := by have := Nat.mod_lt at_ (show bm + 1 > 0 by omega); omega
      have hqI : (at_ : Int) % ((bm : Int) + 1) = q := by rw [← hq]; rfl
      have hne : ¬ ((bm : Int) + 1 = 0) := by omega
      have hqc : q ≤ bcc := by omega
      obtain ⟨K, rest, hsp⟩ := split_ex (recs := rs) (fun i hi => by have := HX.out.2 i hi; omega) q (by rw [hlz]; omega)
      have HSp := hide hsp
      have HBm := hide hbm
      have HN := hide (new_any wr 16777216 (by omega) (by omega))
      clear hlz hq hsp hbm
      go_wp2_with fail
      refine HN.out.mono ?_
      rintro e w2 ⟨rfl, rfl⟩
      have hnew := new_in wr (n := 16777216) (by omega)
      have hO2 : Only (fun _ => False) wr (wr.alloc (.cells (diskArr (DS.new 16777216) (fun _ => .slice none 0 0)) 55)) := (Only.refl _ wr).alloc _
      have hsz : (wr.alloc (.cells (diskArr (DS.new 16777216) (fun _ => .slice none 0 0)) 55)).heap.size = wr.heap.size + 1 := by simp
      obtain ⟨w2, hw2⟩ : ∃ w2, wr.alloc (.cells (diskArr (DS.new (Int.toNat 16777216)) (fun _ => .slice none 0 0)) 55) = w2 := ⟨_, rfl⟩
      have hw2' : wr.alloc (.cells (diskArr (DS.new 16777216) (fun _ => .slice none 0 0)) 55) = w2 := hw2
      rw [hw2'] at hnew hO2 hsz
      rw [hw2]
      have hF2 := HF.out.grow hO2
      have HDA := hide (dAppend_any (f := 0) hnew (fun k hk => by rw [hk, hsz]; omega) (new_calm 16777216) (by omega) (.slice BA q bcc) (lz.take q) (Cd.rds_take_n hF2.rds (by have := HBm.out; omega)) (fun k hk e => by have := Cd.rds_lt (HF.out.rds) (rdBlock_le hqm hk); omega) (by rw [List.length_take]; omega) (by rw [new_used, List.length_take]; simp only [DS.new]; omega))
      have O2 := hide hO2
      have HF2 := hide hF2
      have HE2' := hide (HE.out.grow hO2)
      clear hnew hO2 hsz hw2 hw2' hF2
      go_wp2_with fail
      refine HDA.out.mono ?_
      rintro e w3 ⟨rfl, S3, D3, F3, hO3, hS3⟩
      have hz1 := HF.out.only.size
      have hz2 := O2.out.size
      have O3 : Hid (Only (fun _ => False) wr w3) := O2.out.trans hO3 fun x hx e => by omega
      have hSw : ∀ x, S3 x → wr.heap.size ≤ x := fun x hx => (hS3 x hx).elim (fun e => by omega) (fun e => by omega)
      have HSw := hide hSw
      have hdt : (doAppend (lz.take q) (DS.new 16777216) 0).data 0 = framesB (rs.take K) ++ rest := by
        unfold doAppend
        simp only [upd_same]
        show [] ++ lz.take q = _
        rw [List.nil_append, ← HLZ.out, HSp.out.eq]
      have HOp := hide (open_js (w0 := w1) (w := w3) (f := 0) (recs := rs.take K) D3 F3 (by omega) ⟨rfl, rfl⟩ rest hdt (fun i hi => by rw [List.length_take] at hi; rw [getD_take (by omega)]; have := HX.out.2 i (by omega); omega) HSp.out.torn (by rw [List.length_take]; omega) (fun x hx => by have := hSw x hx; omega) (HF.out.only.trans' O3.out))
      clear D3 F3 hO3 hS3 hSw hdt hz1 hz2
      go_wp2_with fail
      refine HOp.out.mono ?_
      rintro e w4 ⟨b, R4, S4, d4, rfl, hJ4, -, -, hO4⟩
      have K4 := hide hJ4
      have O4 : Hid (Only (fun _ => False) wr w4) := O3.out.trans hO4 fun x hx e => by have := HSw.out x e; omega
      have HE4 := hide (HE.out.grow O4.out)
      obtain ⟨-, g, rfl, hcl⟩ := HE4.out.cell
      have HCl := hide hcl
      have hKle := HSp.out.le
      clear hJ4 hO4 hcl
      go_wp2
      go_loop [14] (fun kv => ∃ j : Nat, j ≤ K ∧ kv = .int .i64 j) (fun kv => K - (intOf kv).toNat)
      case atStart => exact ⟨0, by omega, rfl⟩
      case round =>
        obtain ⟨j, hj, rfl⟩ := hrel
        by_cases hjK : j < K
        · have hcj := HCl.out (j + 1) (by omega)
          have hle := endAt_mono rs (show j + 1 ≤ K by omega)
          have hlo := HSp.out.lo
          generalize endAt rs (j + 1) = z at hcj hle
          have hzq : (z : Int) ≤ q := by omega
          have hjl : (j : Int) + 1 < (rs.length : Int) + 1 := by omega
          clear hle hlo
          go_wp2
          go_round
          case rel => exact ⟨j + 1, by omega, by go_num⟩
          case measure => simp [intOf]; omega
        · obtain rfl : j = K := by omega
          have hcK0 := HCl.out j (by omega)
          have HSz : Hid (Calls Try.prog 15 #[.pointer (some ⟨wr.heap.size, 0, none⟩), .int .i64 0] w4 fun e w' => e = .returned (.tuple #[.int .i64 (endAt rs j), .int .i64 0]) ∧ w4 = w') := by
            obtain ⟨hok, V, hA, hS⟩ := K4.out.jd.disk
            have h1 := Go.Proofs.Ytcedenhfchcgiaa.size_any hA ((0 : Nat) : Int)
            rw [K4.out.calm.code (by omega), if_pos rfl, Int.toNat_natCast] at h1
            have h2 : d4.len 0 = endAt rs j := by unfold DS.len; rw [K4.out.data]; rfl
            rw [h2] at h1
            exact h1
          have HKl : Hid ((rs.take j).length = j) := by show _ = _; rw [List.length_take]; omega
          have K4d := hide (K4.out.grow ((Only.refl (fun _ => False) w4).drew))
          have HRec := hide (records_any K4d.out.jd.jin (by have := HKl.out; omega) (fun i hi => by rw [getD_take (by have := HKl.out; omega)]; have := HX.out.2 i (by have := HKl.out; omega); unfold lim47; omega))
          have HTk : Hid (RdRecs w4.drew A1 j (rs.take j) (fun k => k < w1.heap.size)) := (HX.out.1.grow K4d.out.only).take hKle
          have hcK : w4.drew.cell? ⟨g, j, none⟩ = some (.int .i64 (endAt rs j)) := hcK0
          have hcp := HCl.out
          have hjc : j ≤ c1 := by omega
          have hhi := HSp.out.hi
          generalize endAt rs j = zK at hcK0 HSz hcK
          by_cases hKl : j < rs.length
          · have hcj := hcp (j + 1) (by omega)
            have hgt := hhi hKl
            generalize endAt rs (j + 1) = z at hcj hgt
            have hzq : ¬ ((z : Int) ≤ q) := by omega
            have hjl : (j : Int) + 1 < (rs.length : Int) + 1 := by omega
            clear hgt hcp hhi
            go_wp2_with fail
            refine HSz.out.mono ?_
            rintro e w5 ⟨rfl, rfl⟩
            go_wp2
            go_region_with (first
              | (go_at_call 10; refine HRec.out.mono ?_; rintro e w6 ⟨v6, rfl, F6⟩; obtain ⟨_, hV6, _⟩ := F6.own; obtain ⟨DA, dm, dc, rfl⟩ := own_form' hV6; obtain ⟨hdm, hrdm⟩ := F6.rd; rw [HKl.out] at hdm hrdm; subst dm; have HF6 := hide F6; have HSm := hide (same_eq (c := dc) (d := c1) hrdm (HTk.out.grow F6.only) (by omega)); clear F6 hV6 hrdm)
              | (go_at_call 11; refine HSm.out.mono ?_; rintro e w7 ⟨rfl, hO7⟩; have O7 := hide ((HF6.out.only).trans' hO7); have kc := O7.out.cell hcK id; clear hO7)
              | (go_at_call 12; refine (begun_any _).mono ?_; rintro e w8 ⟨rfl, hO8⟩; have O8 := hide (O7.out.trans' hO8); clear hO8))
            all_goals
              try simp [Act.put]
              go_wp2
              go_ret
              exact ⟨rfl, O1.out.trans' (HF.out.only.trans' (O4.out.trans' (((Only.refl (fun _ => False) w4).drew).trans' O8.out)))⟩
          · have hjl : ¬ ((j : Int) + 1 < (rs.length : Int) + 1) := by omega
            clear hcp hhi
            go_wp2_with fail
            refine HSz.out.mono ?_
            rintro e w5 ⟨rfl, rfl⟩
            go_wp2
            go_region_with (first
              | (go_at_call 10; refine HRec.out.mono ?_; rintro e w6 ⟨v6, rfl, F6⟩; obtain ⟨_, hV6, _⟩ := F6.own; obtain ⟨DA, dm, dc, rfl⟩ := own_form' hV6; obtain ⟨hdm, hrdm⟩ := F6.rd; rw [HKl.out] at hdm hrdm; subst dm; have HF6 := hide F6; have HSm := hide (same_eq (c := dc) (d := c1) hrdm (HTk.out.grow F6.only) (by omega)); clear F6 hV6 hrdm)
              | (go_at_call 11; refine HSm.out.mono ?_; rintro e w7 ⟨rfl, hO7⟩; have O7 := hide ((HF6.out.only).trans' hO7); have kc := O7.out.cell hcK id; clear hO7)
              | (go_at_call 12; refine (begun_any _).mono ?_; rintro e w8 ⟨rfl, hO8⟩; have O8 := hide (O7.out.trans' hO8); clear hO8))
            all_goals
              try simp [Act.put]
              go_wp2
              go_ret
              exact ⟨rfl, O1.out.trans' (HF.out.only.trans' (O4.out.trans' (((Only.refl (fun _ => False) w4).drew).trans' O8.out)))⟩

end Go.Proofs.Ytcedenhfchcgiaa.Jn
