/- JournalApart, walked. -/
import Derived.Test.YtcedenhfchcgiaaJn15
set_option linter.unusedVariables false
set_option linter.unusedSimpArgs false
namespace Go.Proofs.Ytcedenhfchcgiaa.Jn
open Go.RowKit Go.Shelf

theorem J2.start {w0 w w' : World} {b1 b2 db : Nat} {d d' : DS} {R1 R2 S S' : Nat → Prop} (hJ : JD w b1 db 3 [] d R1 S) (h1 : ∀ x, R1 x → w0.heap.size ≤ x) (hS : ∀ x, S x → w0.heap.size ≤ x) (h0 : Only (fun _ => False) w0 w)
    (hK : JD w' b2 db 4 [] d' R2 S') (hR2 : ∀ x, R2 x → w.heap.size ≤ x) (hO : Only S w w') (hS' : ∀ x, S' x → S x ∨ w.heap.size ≤ x) (hc : Calm d') (hd3 : d.data 3 = []) (hd : d'.data = upd d.data 4 (framesB [])) : J2 w0 w' b1 b2 db [] [] d' R1 R2 S' := by
  have hz := h0.size
  refine ⟨hJ.jin.only hO fun k hk hs => hJ.dis k hk hs, hK.jin, hK.disk, hK.low, fun k hk hs => ?_, hK.dis, fun k hk h2 => ?_, hc, h1, fun k hk => Nat.le_trans hz (hR2 k hk), fun k hk => (hS' k hk).elim (hS k) fun h => Nat.le_trans hz h, h0.trans hO fun x hx e => by have := hS x e; omega, by rw [hd, upd_ne _ _ (by omega), hd3]; rfl, by rw [hd, upd_same]⟩
  · rcases hS' k hs with e | e
    · exact hJ.dis k hk e
    · have := hJ.jin.low k hk; omega
  · have h3 := hR2 k h2
    have := hJ.jin.low k hk
    omega

theorem frame_small {l : List UInt8} (h : l.length ≤ 300) : (frameB l).length ≤ 310 := by
  unfold frameB
  rw [List.length_append]
  have := Cd.leb_len10 (show l.length < 18446744073709551616 by omega)
  omega

theorem own_cell {w : World} {A : Option Addr} {m c n i : Nat} {Vs : List Value} {V : Value} {e : TypeId} (h : w.ownsRow 0 e 1 (.slice A m c) n Vs) (hV : Vs[i]? = some V) : ∃ g, A = some ⟨g, 0, none⟩ ∧ w.cell? ⟨g, i, none⟩ = some V := by
  have hi := (List.getElem?_eq_some_iff.1 hV).1
  have hl := h.1
  rcases h.2 with ⟨h2, h3⟩ | ⟨g, cap, cur, hv, hb, hh, hnc, hc, hs, ht⟩
  · omega
  · injection hv with e1 e2 e3
    subst e1
    refine ⟨g, rfl, ?_⟩
    have := h.cells (g := g) rfl i V hV
    rw [addr_eta _ rfl] at this
    simpa using this
theorem slot_form {w : World} {v : Value} {n : Nat} (h : Slot w v n) : ∃ A m c, v = .slice A m c := by
  obtain ⟨l, _, h⟩ := h
  exact own_form' h

set_option maxRecDepth 100000 in
set_option maxHeartbeats 16000000 in
theorem journalApart_any {w : World} (A B : Option Addr) (n c bn bc : Nat) (recsA recsB : List (List UInt8)) {T U : Nat → Prop} (h : RdRecs w A n recsA T) (hnc : n ≤ c) (hn : n ≤ 9223372036854775807) (h2 : RdRecs w B bn recsB U) (hnc2 : bn ≤ bc) (hn2 : bn ≤ 9223372036854775807) :
    Calls Try.prog 3 #[.slice A n c, .slice B bn bc] w fun e w' => e = .returned (.bool true) ∧ Only (fun _ => False) w w' := by
  have HCut := hide (cut_any A n c recsA h hnc hn)
  have HCut2 := hide (fun (w' : World) (ho : Only (fun _ => False) w w') => cut_any B bn bc recsB (h2.grow ho) hnc2 hn2)
  have hfl : ∀ (W : World) (X : Option Addr) (m cc : Nat), (Instr.field 26 (.agg #[.int .i64 0, .int .i64 0, .slice none 0 0, .slice X m cc, .slice none 0 0]) 3).run Try.prog W = .ok (.slice X m cc) W := fun _ _ _ _ => by kernel_rfl
  clear h hnc hn h2 hnc2 hn2
  go_enter Try.func3, Try.ntmps3
  go_wp2_with fail
  refine HCut.out.mono ?_
  rintro e w0 ⟨A1, c1, rfl, hrd, hO1, hc1⟩
  have hl8 := cutR_len recsA
  have hsm : ∀ i, i < (cutR recsA).length → ((cutR recsA).getD i []).length ≤ 300 := fun i _ => cutR_small recsA i
  generalize cutR recsA = ra at *
  have HX0 := hide (And.intro hrd hsm)
  have O0 := hide hO1
  clear hrd hO1 hsm
  go_wp2_with fail
  refine (HCut2.out _ O0.out).mono ?_
  rintro e w1 ⟨B1, d1, rfl, hrd, hO1, hd1⟩
  have hm8 := cutR_len recsB
  have hsm : ∀ i, i < (cutR recsB).length → ((cutR recsB).getD i []).length ≤ 300 := fun i _ => cutR_small recsB i
  generalize cutR recsB = rb at *
  have HX := hide (And.intro (HX0.out.1.grow hO1) HX0.out.2)
  have HY := hide (And.intro hrd hsm)
  have O1 := hide (O0.out.trans' hO1)
  have HN := hide (new_any w1 16777216 (by omega) (by omega))
  clear hrd hO1 hsm
  go_wp2_with fail
  refine HN.out.mono ?_
  rintro e w2 ⟨rfl, rfl⟩
  have hnew := new_in w1 (n := 16777216) (by omega)
  have hO2 : Only (fun _ => False) w1 (w1.alloc (.cells (diskArr (DS.new 16777216) (fun _ => .slice none 0 0)) 55)) := (Only.refl _ w1).alloc _
  have hsz : (w1.alloc (.cells (diskArr (DS.new 16777216) (fun _ => .slice none 0 0)) 55)).heap.size = w1.heap.size + 1 := by simp
  obtain ⟨w2, hw2⟩ : ∃ w2, w1.alloc (.cells (diskArr (DS.new (Int.toNat 16777216)) (fun _ => .slice none 0 0)) 55) = w2 := ⟨_, rfl⟩
  have hw2' : w1.alloc (.cells (diskArr (DS.new 16777216) (fun _ => .slice none 0 0)) 55) = w2 := hw2
  rw [hw2'] at hnew hO2 hsz
  rw [hw2]
  have HOp := hide (open_any (f := 3) hnew (fun k hk => by rw [hk, hsz]; omega) (by omega) (new_calm 16777216) [] [] rfl (fun i hi => by cases hi) torn_nil (by simp))
  have O2 := hide hO2
  clear hnew hO2 hsz hw2 hw2'
  go_wp2_with fail
  refine HOp.out.mono ?_
  rintro e w3 ⟨b1, R3, S3, d3, rfl, hJ3, hR3, hO3, hS3, hcalm3, hroom3, hdata3, hused3⟩
  have HOp2 := hide (open_any (f := 4) hJ3.disk hJ3.low (by omega) hcalm3 [] [] (by rw [hdata3, upd_ne _ _ (by omega)]; rfl) (fun i hi => by cases hi) torn_nil (by simp))
  have hz2 := O2.out.size
  have K3 : Hid (JD w3 b1 w1.heap.size 3 [] d3 R3 S3 ∧ (∀ x, R3 x → w1.heap.size ≤ x) ∧ (∀ x, S3 x → w1.heap.size ≤ x) ∧ Only (fun _ => False) w1 w3 ∧ d3.room = 16777216 ∧ d3.used = 0 ∧ d3.data 3 = []) :=
    ⟨hJ3, fun x hx => by have := hR3 x hx; omega, fun x hx => (hS3 x hx).elim (fun e => by omega) (fun e => by omega), O2.out.trans hO3 fun x hx e => by omega, hroom3, by rw [new_used] at hused3; omega, by rw [hdata3, upd_same]; rfl⟩
  clear hJ3 hR3 hO3 hS3 hcalm3 hroom3 hdata3 hused3 hz2
  go_wp2_with fail
  refine HOp2.out.mono ?_
  rintro e w4 ⟨b2, R4, S4, d4, rfl, hJ4, hR4, hO4, hS4, hcalm4, hroom4, hdata4, hused4⟩
  have K4 : Hid (J2 w1 w4 b1 b2 w1.heap.size [] [] d4 R3 R4 S4 ∧ d4.room = 16777216 ∧ d4.used ≤ 0) :=
    ⟨J2.start K3.out.1 K3.out.2.1 K3.out.2.2.1 K3.out.2.2.2.1 hJ4 hR4 hO4 hS4 hcalm4 K3.out.2.2.2.2.2.2 hdata4, by rw [hroom4]; exact K3.out.2.2.2.2.1, by have := K3.out.2.2.2.2.2.1; omega⟩
  clear hJ4 hR4 hO4 hS4 hcalm4 hroom4 hdata4 hused4
  go_wp2_with fail
  obtain ⟨M, hM⟩ : ∃ M, M = max ra.length rb.length := ⟨_, rfl⟩
  have hM8 : M ≤ 8 := by omega
  have hMa : ra.length ≤ M := by omega
  have hMb : rb.length ≤ M := by omega
  have HMx : Hid (M = max ra.length rb.length) := hM
  clear hM
  have hmax : (if ra.length < rb.length then (rb.length : Int) else (ra.length : Int)) = (M : Int) := by rw [HMx.out]; split <;> omega
  have hmax2 : (if (ra.length : Int) < (rb.length : Int) then (rb.length : Int) else (ra.length : Int)) = (M : Int) := by rw [HMx.out]; split <;> omega
  have HFA := hide (frames_bound 8 HX.out.2 hl8)
  have HFB := hide (frames_bound 8 HY.out.2 hm8)
  go_loopw [11] (fun iv wr => ∃ i : Nat, i ≤ M ∧ iv = .int .i64 i ∧ ∃ (R1 R2 S : Nat → Prop) (d : DS), Hid (J2 w1 wr b1 b2 w1.heap.size (ra.take i) (rb.take i) d R1 R2 S ∧ d.room = 16777216 ∧ d.used ≤ i * 1000)) (fun iv _ => M - (intOf iv).toNat)
  case atStart => exact ⟨0, by omega, rfl, R3, R4, S4, d4, K4⟩
  case round =>
    obtain ⟨i, hi, rfl, R1, R2, S, d, HJ⟩ := hrel
    by_cases hiM : i < M
    · by_cases hia : i < ra.length
      · skip
        obtain ⟨ab, ao, V, rfl, hT, hcell, hV, -⟩ := (HX.out.1.grow HJ.out.1.only).at_ i hia
        have hrl := HX.out.2 i hia
        have hts := take_succ_recs hia
        have HIA := hide hia
        generalize hr : ra.getD i [] = r at hV hrl hts
        obtain ⟨VA, vn, vc, rfl⟩ := Cd.rds_form hV
        have HV := hide hV
        have HTS := hide hts
        have HJ1 := hide HJ.out.1
        clear hT hV hr hts
        go_wp2_with (first
          | (at_builtin; go_loud (refine Cd.wp_app rfl _ _ 23 rfl (.slice none 0 0) 0 [] rfl (World.ownsRow_nil _ _ _ _) _ rfl _ r (HV.out.src Try.underlying23 (bytesV_one r)) (by simp only [List.length_nil]; unfold Cd.lim47; omega) ?_; intro v2 w2 g1 g2 g3; have F2 := hide ((Cd.Fresh.nil wr).push g1 g2 g3); obtain ⟨XA, xm, xc, rfl⟩ := own_form' F2.out.own; clear g1 g2 g3))
          | fail)
        have hF2 : Cd.Fresh wr w2 (.slice XA xm xc) r := F2.out
        obtain rfl : xm = r.length := Cd.own_n hF2.own
        have HF2 := hide hF2
        have HAp := hide ((HJ1.out.grow hF2.only).append1 (.slice XA r.length xc) r hF2.rds (fun k hk => ⟨fun h => by have := HJ1.out.low k h; have := hF2.new k (rdBlock_own hk); omega, fun h => by have := HJ1.out.j1.low k h; have := hF2.new k (rdBlock_own hk); omega⟩) (by omega) (by have := HJ.out.2; have := frame_small hrl; omega) (by rw [List.length_take]; omega) (by have := frames_take_le ra i; have := HFA.out; omega))
        clear F2 hF2
        refine HAp.out.mono ?_
        rintro e w3 ⟨rfl, R1A, R2A, SA, dA, hJA, hroomA, husedA, gA1, gA2, gA3, hOA⟩
        have hSlot : Slot w3 (.slice XA r.length xc) r.length := ⟨r, rfl, hOA.owns HF2.out.own fun k hk h => by
          have h1 := HF2.out.new k hk
          rcases h with h | h | h
          · have := HJ1.out.j1.low k h; omega
          · have := HJ1.out.j2.low k h; omega
          · have := HJ1.out.low k h; omega⟩
        have KA0 : Hid (J2 w1 w3 b1 b2 w1.heap.size (ra.take (i + 1)) (rb.take i) dA R1A R2A SA ∧ dA.room = 16777216 ∧ dA.used ≤ i * 1000 + 310) := ⟨by rw [HTS.out]; exact hJA, by rw [hroomA]; exact HJ.out.2.1, by have := HJ.out.2.2; have := frame_small hrl; omega⟩
        have hXn : Hid (∀ k, (Value.slice XA r.length xc).ownBlock = some k → ¬ R1A k ∧ ¬ R2A k ∧ ¬ SA k ∧ w1.heap.size ≤ k) := fun k hk => by
          have h1 := HF2.out.new k hk
          obtain ⟨cc, hcc⟩ := owns_block HF2.out.own hk
          have h2 := heap_lt hcc
          have h3 := HJ1.out.only.size
          refine ⟨fun h => ?_, fun h => ?_, fun h => ?_, by omega⟩
          · rcases gA1 k h with h | h
            · have := HJ1.out.j1.low k h; omega
            · omega
          · rcases gA2 k h with h | h
            · have := HJ1.out.j2.low k h; omega
            · omega
          · rcases gA3 k h with h | h
            · have := HJ1.out.low k h; omega
            · omega
        have HSlot := hide hSlot
        clear hJA hroomA husedA gA1 gA2 gA3 hOA hSlot
        go_wp2
        go_loopw [85] (fun jv wq => ∃ j : Nat, j ≤ r.length ∧ jv = .int .i64 j ∧ Hid (Slot wq (.slice XA r.length xc) r.length) ∧ Hid (Only (fun y => (Value.slice XA r.length xc).ownBlock = some y) w3 wq)) (fun jv _ => r.length - (intOf jv).toNat)
        case atStart => exact ⟨0, by omega, rfl, HSlot, hide (Only.refl _ w3)⟩
        case round =>
          obtain ⟨j, hj, rfl, HS, HO⟩ := hrel
          by_cases hjl : j < r.length
          · obtain ⟨g, rfl, hcs⟩ := HS.out.cells.2 (by omega)
            obtain ⟨z, hz, hzf⟩ := hcs j hjl
            have HP := hide (HS.out.poke g j (z + 1))
            have HO2 := hide (HO.out.setCell (p := ⟨g, j, none⟩) (.inl rfl) (.int .u8 ((z + 1).toNat : Int)))
            have hz1 : ((z + 1).toNat : Int) = ((z.toNat : Int) + 1) % 256 := by rw [UInt8.toNat_add]; rfl
            rw [hz1] at HP HO2
            have hj0 : (0 : Int) ≤ j := by omega
            have hjI : (j : Int) < r.length := by omega
            clear hcs hz1
            go_wp2
            go_roundw
            case rel => exact ⟨j + 1, by omega, by go_num, HP, HO2⟩
            case measure => simp [intOf]; omega
          · obtain rfl : j = r.length := by omega
            have KA : Hid (J2 w1 wr b1 b2 w1.heap.size (ra.take (i + 1)) (rb.take i) dA R1A R2A SA ∧ dA.room = 16777216 ∧ dA.used ≤ i * 1000 + 310) := ⟨KA0.out.1.other HO.out hXn.out, KA0.out.2⟩
            have HIm := hide hiM
            clear hiM hjl
            by_cases hib : i < rb.length
            · obtain ⟨ab2, ao2, V2, rfl, hT2, hcell2, hV2, -⟩ := (HY.out.1.grow KA.out.1.only).at_ i hib
              have hrl2 := HY.out.2 i hib
              have hts2 := take_succ_recs hib
              obtain ⟨_, _, _, -, -, -, -, hV2b⟩ := HY.out.1.at_ i hib
              have HBlk : Hid (∀ k, rdBlock V2 = some k → k < w1.heap.size) := by
                obtain ⟨b', o', V', h1, _, h2, _, h3⟩ := HY.out.1.at_ i hib
                have e : V' = V2 := by
                  injection h1 with h1
                  injection h1 with e1 e2 _
                  subst e1 e2
                  have := KA.out.1.only.cell h2 id
                  rw [hcell2] at this
                  injection this with this
                  exact this.symm
                rw [← e]
                exact h3
              generalize hr2 : rb.getD i [] = r2 at hV2 hrl2 hts2
              obtain ⟨VA2, vn2, vc2, rfl⟩ := Cd.rds_form hV2
              have HAp2 := hide (KA.out.1.append2 (.slice VA2 vn2 vc2) r2 hV2 (fun k hk => by have h1 := HBlk.out k hk; exact ⟨fun h => by have := KA.out.1.newS k h; omega, fun h => by have := KA.out.1.new2 k h; omega⟩) (by omega) (by have := KA.out.2; have := frame_small hrl2; omega) (by rw [List.length_take]; omega) (by have := frames_take_le rb i; have := HFB.out; omega))
              have HTS2 := hide (And.intro hts2 (frame_small hrl2))
              clear hV2b hT2 hr2 hts2 hrl2 hV2
              go_wp2_with fail
              refine HAp2.out.mono ?_
              rintro e w5 ⟨rfl, R1B, R2B, SB, dB, hJB, hroomB, husedB, -, -, -, -⟩
              have KB : Hid (J2 w1 w5 b1 b2 w1.heap.size (ra.take (i + 1)) (rb.take (i + 1)) dB R1B R2B SB ∧ dB.room = 16777216 ∧ dB.used ≤ i * 1000 + 620) := ⟨by rw [HTS2.out.1]; exact hJB, by rw [hroomB]; exact KA.out.2.1, by have := KA.out.2.2; have := HTS2.out.2; omega⟩
              clear hJB hroomB husedB
              have hrecl : (ra.take (i + 1)).length ≤ 8 := by rw [List.length_take]; omega
              have HRec := hide (records_any KB.out.1.j1 (by omega) (fun p hp => by rw [List.length_take] at hp; rw [getD_take (by omega)]; have := HX.out.2 p (by omega); unfold lim47; omega))
              clear hrecl
              go_wp2_with fail
              refine HRec.out.mono ?_
              rintro e w6 ⟨v6, rfl, F6⟩
              have hsl := Slots.of F6 (fun p hp => by rw [List.length_take] at hp; rw [getD_take (by omega)]; have := HX.out.2 p (by omega); omega)
              obtain ⟨ml, hml⟩ : ∃ ml, (ra.take (i + 1)).length = ml := ⟨_, rfl⟩
              have hml8 : ml ≤ 8 := by rw [← hml, List.length_take]; omega
              rw [hml] at hsl
              obtain ⟨_, hV6, _⟩ := F6.own
              obtain ⟨DA, dm, dc, rfl⟩ := own_form' hV6
              have hdm := Cd.own_n hV6
              rw [hml] at hdm
              subst hdm
              have HSl := hide hsl
              clear F6 hV6 hsl hml
              go_wp2
              obtain ⟨wC, hwC⟩ : ∃ wC : World, wC = w5 := ⟨_, rfl⟩
              rw [← hwC] at HSl KB
              have HWC := hide hwC
              clear hwC
              go_loopw [111] (fun jv wq => ∃ j : Nat, j ≤ dm ∧ jv = .int .i64 j ∧ Hid (Slots wC wq (.slice DA dm dc) dm)) (fun jv _ => dm - (intOf jv).toNat)
              case atStart => exact ⟨0, by omega, rfl, HSl⟩
              case round =>
                obtain ⟨j, hj, rfl, HS⟩ := hrel
                by_cases hjl : j < dm
                · obtain ⟨Vs7, hv7, hall7⟩ := HS.out.2
                  obtain ⟨V7, n7, e7, s7, b7, new7⟩ := hall7 j hjl
                  have hc7 := own_cell hv7 e7
                  obtain ⟨g7, rfl, hc7⟩ := hc7
                  obtain ⟨UA, um, uc, rfl⟩ := slot_form s7
                  obtain rfl := s7.cells.1
                  have HS7 := hide s7
                  have HN7 := hide new7
                  have HJL := hide hjl
                  have hj0 : (0 : Int) ≤ j := by omega
                  have hjI : (j : Int) < dm := by omega
                  clear hv7 hall7 e7 s7 new7
                  go_wp2
                  go_loopw [117] (fun pv wq => ∃ p : Nat, p ≤ um ∧ pv = .int .i64 p ∧ Hid (Slots wC wq (.slice (some ⟨g7, 0, none⟩) dm dc) dm) ∧ Hid (Slot wq (.slice UA um uc) um)) (fun pv _ => um - (intOf pv).toNat)
                  case atStart => exact ⟨0, by omega, rfl, HS, HS7⟩
                  case round =>
                    obtain ⟨p, hp, rfl, HSs, HSo⟩ := hrel
                    by_cases hpl : p < um
                    · obtain ⟨g8, rfl, hcs⟩ := HSo.out.cells.2 (by omega)
                      obtain ⟨z, hz, hzf⟩ := hcs p hpl
                      have HP := hide (HSo.out.poke g8 p 0)
                      have HPs := hide (HSs.out.poke (i := p) HSo.out rfl (HN7.out g8 rfl) 0)
                      have hp0 : (0 : Int) ≤ p := by omega
                      have hpI : (p : Int) < um := by omega
                      clear hcs
                      go_wp2
                      go_roundw
                      case rel => exact ⟨p + 1, by omega, by go_num, HPs, HP⟩
                      case measure => simp [intOf]; omega
                    · obtain rfl : p = um := by omega
                      go_wp2
                      go_roundw
                      case rel => exact ⟨j + 1, HJL.out, by go_num, HSs⟩
                      case measure => simp [intOf]; have := HJL.out; omega
                · obtain rfl : j = dm := by omega
                  go_wp2
                  go_roundw
                  case rel => exact ⟨i + 1, HIm.out, by go_num, _, _, _, _, hide ⟨KB.out.1.grow HS.out.1, KB.out.2.1, by have := KB.out.2.2; omega⟩⟩
                  case measure => simp [intOf]; have := HIm.out; omega
            · have hts2 : rb.take (i + 1) = rb.take i := by rw [List.take_of_length_le (by omega), List.take_of_length_le (by omega)]
              have KB := hide (show J2 w1 wr b1 b2 w1.heap.size (ra.take (i + 1)) (rb.take (i + 1)) _ _ _ _ ∧ _ ∧ _ from ⟨by rw [hts2]; exact KA.out.1, KA.out.2.1, Nat.le_trans KA.out.2.2 (show i * 1000 + 310 ≤ i * 1000 + 620 by omega)⟩)
              clear hts2
              have hrecl : (ra.take (i + 1)).length ≤ 8 := by rw [List.length_take]; omega
              have HRec := hide (records_any KB.out.1.j1 (by omega) (fun p hp => by rw [List.length_take] at hp; rw [getD_take (by omega)]; have := HX.out.2 p (by omega); unfold lim47; omega))
              clear hrecl
              go_wp2_with fail
              refine HRec.out.mono ?_
              rintro e w6 ⟨v6, rfl, F6⟩
              have hsl := Slots.of F6 (fun p hp => by rw [List.length_take] at hp; rw [getD_take (by omega)]; have := HX.out.2 p (by omega); omega)
              obtain ⟨ml, hml⟩ : ∃ ml, (ra.take (i + 1)).length = ml := ⟨_, rfl⟩
              have hml8 : ml ≤ 8 := by rw [← hml, List.length_take]; omega
              rw [hml] at hsl
              obtain ⟨_, hV6, _⟩ := F6.own
              obtain ⟨DA, dm, dc, rfl⟩ := own_form' hV6
              have hdm := Cd.own_n hV6
              rw [hml] at hdm
              subst hdm
              have HSl := hide hsl
              clear F6 hV6 hsl hml
              go_wp2
              obtain ⟨wC, hwC⟩ : ∃ wC : World, wC = wr := ⟨_, rfl⟩
              rw [← hwC] at HSl KB
              have HWC := hide hwC
              clear hwC
              go_loopw [111] (fun jv wq => ∃ j : Nat, j ≤ dm ∧ jv = .int .i64 j ∧ Hid (Slots wC wq (.slice DA dm dc) dm)) (fun jv _ => dm - (intOf jv).toNat)
              case atStart => exact ⟨0, by omega, rfl, HSl⟩
              case round =>
                obtain ⟨j, hj, rfl, HS⟩ := hrel
                by_cases hjl : j < dm
                · obtain ⟨Vs7, hv7, hall7⟩ := HS.out.2
                  obtain ⟨V7, n7, e7, s7, b7, new7⟩ := hall7 j hjl
                  have hc7 := own_cell hv7 e7
                  obtain ⟨g7, rfl, hc7⟩ := hc7
                  obtain ⟨UA, um, uc, rfl⟩ := slot_form s7
                  obtain rfl := s7.cells.1
                  have HS7 := hide s7
                  have HN7 := hide new7
                  have HJL := hide hjl
                  have hj0 : (0 : Int) ≤ j := by omega
                  have hjI : (j : Int) < dm := by omega
                  clear hv7 hall7 e7 s7 new7
                  go_wp2
                  go_loopw [117] (fun pv wq => ∃ p : Nat, p ≤ um ∧ pv = .int .i64 p ∧ Hid (Slots wC wq (.slice (some ⟨g7, 0, none⟩) dm dc) dm) ∧ Hid (Slot wq (.slice UA um uc) um)) (fun pv _ => um - (intOf pv).toNat)
                  case atStart => exact ⟨0, by omega, rfl, HS, HS7⟩
                  case round =>
                    obtain ⟨p, hp, rfl, HSs, HSo⟩ := hrel
                    by_cases hpl : p < um
                    · obtain ⟨g8, rfl, hcs⟩ := HSo.out.cells.2 (by omega)
                      obtain ⟨z, hz, hzf⟩ := hcs p hpl
                      have HP := hide (HSo.out.poke g8 p 0)
                      have HPs := hide (HSs.out.poke (i := p) HSo.out rfl (HN7.out g8 rfl) 0)
                      have hp0 : (0 : Int) ≤ p := by omega
                      have hpI : (p : Int) < um := by omega
                      clear hcs
                      go_wp2
                      go_roundw
                      case rel => exact ⟨p + 1, by omega, by go_num, HPs, HP⟩
                      case measure => simp [intOf]; omega
                    · obtain rfl : p = um := by omega
                      go_wp2
                      go_roundw
                      case rel => exact ⟨j + 1, HJL.out, by go_num, HSs⟩
                      case measure => simp [intOf]; have := HJL.out; omega
                · obtain rfl : j = dm := by omega
                  go_wp2
                  go_roundw
                  case rel => exact ⟨i + 1, HIm.out, by go_num, _, _, _, _, hide ⟨KB.out.1.grow HS.out.1, KB.out.2.1, by have := KB.out.2.2; omega⟩⟩
                  case measure => simp [intOf]; have := HIm.out; omega
      · skip
        have hts : ra.take (i + 1) = ra.take i := by rw [List.take_of_length_le (by omega), List.take_of_length_le (by omega)]
        have KA : Hid (J2 w1 wr b1 b2 w1.heap.size (ra.take (i + 1)) (rb.take i) d R1 R2 S ∧ d.room = 16777216 ∧ d.used ≤ i * 1000 + 310) := ⟨by rw [hts]; exact HJ.out.1, HJ.out.2.1, by have := HJ.out.2.2; omega⟩
        have HIm := hide hiM
        clear hts
        by_cases hib : i < rb.length
        · obtain ⟨ab2, ao2, V2, rfl, hT2, hcell2, hV2, -⟩ := (HY.out.1.grow KA.out.1.only).at_ i hib
          have hrl2 := HY.out.2 i hib
          have hts2 := take_succ_recs hib
          obtain ⟨_, _, _, -, -, -, -, hV2b⟩ := HY.out.1.at_ i hib
          have HBlk : Hid (∀ k, rdBlock V2 = some k → k < w1.heap.size) := by
            obtain ⟨b', o', V', h1, _, h2, _, h3⟩ := HY.out.1.at_ i hib
            have e : V' = V2 := by
              injection h1 with h1
              injection h1 with e1 e2 _
              subst e1 e2
              have := KA.out.1.only.cell h2 id
              rw [hcell2] at this
              injection this with this
              exact this.symm
            rw [← e]
            exact h3
          generalize hr2 : rb.getD i [] = r2 at hV2 hrl2 hts2
          obtain ⟨VA2, vn2, vc2, rfl⟩ := Cd.rds_form hV2
          have HAp2 := hide (KA.out.1.append2 (.slice VA2 vn2 vc2) r2 hV2 (fun k hk => by have h1 := HBlk.out k hk; exact ⟨fun h => by have := KA.out.1.newS k h; omega, fun h => by have := KA.out.1.new2 k h; omega⟩) (by omega) (by have := KA.out.2; have := frame_small hrl2; omega) (by rw [List.length_take]; omega) (by have := frames_take_le rb i; have := HFB.out; omega))
          have HTS2 := hide (And.intro hts2 (frame_small hrl2))
          clear hV2b hT2 hr2 hts2 hrl2 hV2
          go_wp2_with fail
          refine HAp2.out.mono ?_
          rintro e w5 ⟨rfl, R1B, R2B, SB, dB, hJB, hroomB, husedB, -, -, -, -⟩
          have KB : Hid (J2 w1 w5 b1 b2 w1.heap.size (ra.take (i + 1)) (rb.take (i + 1)) dB R1B R2B SB ∧ dB.room = 16777216 ∧ dB.used ≤ i * 1000 + 620) := ⟨by rw [HTS2.out.1]; exact hJB, by rw [hroomB]; exact KA.out.2.1, by have := KA.out.2.2; have := HTS2.out.2; omega⟩
          clear hJB hroomB husedB
          have hrecl : (ra.take (i + 1)).length ≤ 8 := by rw [List.length_take]; omega
          have HRec := hide (records_any KB.out.1.j1 (by omega) (fun p hp => by rw [List.length_take] at hp; rw [getD_take (by omega)]; have := HX.out.2 p (by omega); unfold lim47; omega))
          clear hrecl
          go_wp2_with fail
          refine HRec.out.mono ?_
          rintro e w6 ⟨v6, rfl, F6⟩
          have hsl := Slots.of F6 (fun p hp => by rw [List.length_take] at hp; rw [getD_take (by omega)]; have := HX.out.2 p (by omega); omega)
          obtain ⟨ml, hml⟩ : ∃ ml, (ra.take (i + 1)).length = ml := ⟨_, rfl⟩
          have hml8 : ml ≤ 8 := by rw [← hml, List.length_take]; omega
          rw [hml] at hsl
          obtain ⟨_, hV6, _⟩ := F6.own
          obtain ⟨DA, dm, dc, rfl⟩ := own_form' hV6
          have hdm := Cd.own_n hV6
          rw [hml] at hdm
          subst hdm
          have HSl := hide hsl
          clear F6 hV6 hsl hml
          go_wp2
          obtain ⟨wC, hwC⟩ : ∃ wC : World, wC = w5 := ⟨_, rfl⟩
          rw [← hwC] at HSl KB
          have HWC := hide hwC
          clear hwC
          go_loopw [111] (fun jv wq => ∃ j : Nat, j ≤ dm ∧ jv = .int .i64 j ∧ Hid (Slots wC wq (.slice DA dm dc) dm)) (fun jv _ => dm - (intOf jv).toNat)
          case atStart => exact ⟨0, by omega, rfl, HSl⟩
          case round =>
            obtain ⟨j, hj, rfl, HS⟩ := hrel
            by_cases hjl : j < dm
            · obtain ⟨Vs7, hv7, hall7⟩ := HS.out.2
              obtain ⟨V7, n7, e7, s7, b7, new7⟩ := hall7 j hjl
              have hc7 := own_cell hv7 e7
              obtain ⟨g7, rfl, hc7⟩ := hc7
              obtain ⟨UA, um, uc, rfl⟩ := slot_form s7
              obtain rfl := s7.cells.1
              have HS7 := hide s7
              have HN7 := hide new7
              have HJL := hide hjl
              have hj0 : (0 : Int) ≤ j := by omega
              have hjI : (j : Int) < dm := by omega
              clear hv7 hall7 e7 s7 new7
              go_wp2
              go_loopw [117] (fun pv wq => ∃ p : Nat, p ≤ um ∧ pv = .int .i64 p ∧ Hid (Slots wC wq (.slice (some ⟨g7, 0, none⟩) dm dc) dm) ∧ Hid (Slot wq (.slice UA um uc) um)) (fun pv _ => um - (intOf pv).toNat)
              case atStart => exact ⟨0, by omega, rfl, HS, HS7⟩
              case round =>
                obtain ⟨p, hp, rfl, HSs, HSo⟩ := hrel
                by_cases hpl : p < um
                · obtain ⟨g8, rfl, hcs⟩ := HSo.out.cells.2 (by omega)
                  obtain ⟨z, hz, hzf⟩ := hcs p hpl
                  have HP := hide (HSo.out.poke g8 p 0)
                  have HPs := hide (HSs.out.poke (i := p) HSo.out rfl (HN7.out g8 rfl) 0)
                  have hp0 : (0 : Int) ≤ p := by omega
                  have hpI : (p : Int) < um := by omega
                  clear hcs
                  go_wp2
                  go_roundw
                  case rel => exact ⟨p + 1, by omega, by go_num, HPs, HP⟩
                  case measure => simp [intOf]; omega
                · obtain rfl : p = um := by omega
                  go_wp2
                  go_roundw
                  case rel => exact ⟨j + 1, HJL.out, by go_num, HSs⟩
                  case measure => simp [intOf]; have := HJL.out; omega
            · obtain rfl : j = dm := by omega
              go_wp2
              go_roundw
              case rel => exact ⟨i + 1, HIm.out, by go_num, _, _, _, _, hide ⟨KB.out.1.grow HS.out.1, KB.out.2.1, by have := KB.out.2.2; omega⟩⟩
              case measure => simp [intOf]; have := HIm.out; omega
        · have hts2 : rb.take (i + 1) = rb.take i := by rw [List.take_of_length_le (by omega), List.take_of_length_le (by omega)]
          have KB := hide (show J2 w1 wr b1 b2 w1.heap.size (ra.take (i + 1)) (rb.take (i + 1)) _ _ _ _ ∧ _ ∧ _ from ⟨by rw [hts2]; exact KA.out.1, KA.out.2.1, Nat.le_trans KA.out.2.2 (show i * 1000 + 310 ≤ i * 1000 + 620 by omega)⟩)
          clear hts2
          exact absurd HIm.out (by have := HMx.out; omega)
    · obtain rfl : i = M := by omega
      have hta : ra.take i = ra := List.take_of_length_le hMa
      have htb : rb.take i = rb := List.take_of_length_le hMb
      rw [hta, htb] at HJ
      have HJ1 := hide HJ.out.1
      have HOp3 := hide (open_any (f := 3) HJ1.out.disk HJ1.out.low (by omega) HJ1.out.calm ra [] (by rw [HJ1.out.data1, List.append_nil]) (fun p hp => by have := HX.out.2 p hp; omega) torn_nil (by omega))
      clear hta htb
      go_wp2_with fail
      refine HOp3.out.mono ?_
      rintro e w5 ⟨b3, R5, S5, d5, rfl, hJ5, hR5, hO5, -, -, -, -, -⟩
      have k1 := hide (HJ1.out.j1.only hO5 HJ1.out.d1)
      have k2 := hide (HJ1.out.j2.only hO5 HJ1.out.d2)
      have k3 := hide hJ5.jin
      have Ow : Hid (Only (fun _ => False) w1 w5) := HJ1.out.only.trans hO5 fun x hx e => by have := HJ1.out.newS x e; omega
      have X5 := hide (HX.out.1.grow Ow.out)
      have Y5 := hide (HY.out.1.grow Ow.out)
      have HR1 := hide (records_any k1.out (by omega) (fun p hp => by have := HX.out.2 p hp; unfold lim47; omega))
      clear hJ5 hR5 hO5
      go_wp2_with fail
      refine HR1.out.mono ?_
      rintro e w6 ⟨v6, rfl, F6⟩
      obtain ⟨_, hV6, _⟩ := F6.own
      obtain ⟨DA, dm, dc, rfl⟩ := own_form' hV6
      obtain ⟨hdm, hrdm⟩ := F6.rd
      subst dm
      have HS1 := hide (same_eq (c := dc) (d := c1) hrdm (X5.out.grow F6.only) (by omega))
      have P6 := hide F6.only
      clear F6 hV6 hrdm
      go_wp2_with fail
      refine HS1.out.mono ?_
      rintro e w7 ⟨rfl, hO7⟩
      have P7 := hide (P6.out.trans' hO7)
      have HR2 := hide (records_any (k2.out.only P7.out fun _ _ => id) (by omega) (fun p hp => by have := HY.out.2 p hp; unfold lim47; omega))
      clear hO7
      go_wp2_with fail
      refine HR2.out.mono ?_
      rintro e w8 ⟨v8, rfl, F8⟩
      obtain ⟨_, hV8, _⟩ := F8.own
      obtain ⟨EA, em, ec, rfl⟩ := own_form' hV8
      obtain ⟨hem, hrem⟩ := F8.rd
      subst em
      have P8 := hide (P7.out.trans' F8.only)
      have HS2 := hide (same_eq (c := ec) (d := d1) hrem (Y5.out.grow P8.out) (by omega))
      clear F8 hV8 hrem
      go_wp2_with fail
      refine HS2.out.mono ?_
      rintro e w9 ⟨rfl, hO9⟩
      have P9 := hide (P8.out.trans' hO9)
      have HR3 := hide (records_any (k3.out.only P9.out fun _ _ => id) (by omega) (fun p hp => by have := HX.out.2 p hp; unfold lim47; omega))
      clear hO9
      go_wp2_with fail
      refine HR3.out.mono ?_
      rintro e w10 ⟨v10, rfl, F10⟩
      obtain ⟨_, hV10, _⟩ := F10.own
      obtain ⟨GA, gm, gc, rfl⟩ := own_form' hV10
      obtain ⟨hgm, hrgm⟩ := F10.rd
      subst gm
      have P10 := hide (P9.out.trans' F10.only)
      have HS3 := hide (same_eq (c := gc) (d := c1) hrgm (X5.out.grow P10.out) (by omega))
      clear F10 hV10 hrgm
      go_wp2_with fail
      refine HS3.out.mono ?_
      rintro e w11 ⟨rfl, hO11⟩
      have P11 := hide (P10.out.trans' hO11)
      clear hO11
      go_wp2_with fail
      refine (begun_any _).mono ?_
      rintro e w12 ⟨rfl, hO12⟩
      have P12 := hide (P11.out.trans' hO12)
      clear hO12
      go_wp2
      go_ret
      exact ⟨rfl, O1.out.trans' (Ow.out.trans' P12.out)⟩

end Go.Proofs.Ytcedenhfchcgiaa.Jn
