/- JournalFrames, walked. -/
import Derived.Test.YtcedenhfchcgiaaJn13
set_option linter.unusedVariables false
set_option linter.unusedSimpArgs false
namespace Go.Proofs.Ytcedenhfchcgiaa.Jn
open Go.RowKit Go.Shelf

theorem small_all {recs : List (List UInt8)} {l : List UInt8} (h : ∀ i, i < recs.length → (recs.getD i []).length ≤ 300) (hl : l.length ≤ 300) : ∀ i, i < (recs ++ [l]).length → ((recs ++ [l]).getD i []).length ≤ 300 := by
  intro i hi
  by_cases e : i < recs.length
  · rw [List.getD_eq_getElem?_getD, List.getElem?_append_left e, ← List.getD_eq_getElem?_getD]; exact h i e
  · have e2 : i = recs.length := by rw [List.length_append] at hi; simp at hi; omega
    subst e2
    rw [List.getD_eq_getElem?_getD, List.getElem?_append_right (Nat.le_refl _)]
    simpa using hl
theorem own_empty (w : World) : (w.alloc (.cells #[] 23)).ownsRow 0 23 1 (.slice (some ⟨w.heap.size, 0, none⟩) 0 0) 0 [] :=
  ⟨rfl, .inr ⟨w.heap.size, 0, #[], rfl, Nat.zero_le _, heap_alloc_new w _, Nat.le_refl _, by simp [maxLen], by simp, by simp⟩⟩
theorem fresh_trans {w w1 w2 : World} {v : Value} {l : List UInt8} (ho : Only (fun _ => False) w w1) (h : Cd.Fresh w1 w2 v l) : Cd.Fresh w w2 v l := ⟨h.own, ho.trans' h.only, fun k hk => Nat.le_trans ho.size (h.new k hk)⟩

set_option maxRecDepth 100000 in
set_option maxHeartbeats 8000000 in
theorem journalFrames_any {w : World} (A B : Option Addr) (n c bn bc : Nat) (recs : List (List UInt8)) (more : List UInt8) {T : Nat → Prop} (h : RdRecs w A n recs T) (hnc : n ≤ c) (hn : n ≤ 9223372036854775807) (hm : Rds w (.slice B bn bc) (bytesV more)) :
    Calls Try.prog 5 #[.slice A n c, .slice B bn bc] w fun e w' => e = .returned (.bool true) ∧ Only (fun _ => False) w w' := by
  have HCut := hide (cut_any A n c recs h hnc hn)
  have hbn := rds_len hm
  obtain ⟨q, hq⟩ : ∃ q, q = min bn 300 := ⟨_, rfl⟩
  have hqmin : (if (300 : Int) < (bn : Int) then (300 : Int) else bn) = (q : Int) := by rw [hq]; split <;> omega
  have hqc : q ≤ bc := by omega
  have HM : Hid (Rds w (.slice B q bc) (bytesV (more.take 300)) ∧ (more.take 300).length ≤ 300) := by
    have h1 := Cd.rds_take_n hm (m := q) (by omega)
    have e : more.take 300 = more.take q := by
      rw [hq, hbn.1]
      by_cases h : more.length ≤ 300
      · rw [Nat.min_eq_left h, List.take_of_length_le h, List.take_length]
      · rw [Nat.min_eq_right (by omega)]
    refine ⟨by rw [e]; exact h1, by rw [List.length_take]; omega⟩
  generalize more.take 300 = ml at HM
  clear h hm hnc hn hbn hq
  have hfl : ∀ (W : World) (X : Option Addr) (m cc : Nat), (Instr.field 26 (.agg #[.int .i64 0, .int .i64 0, .slice none 0 0, .slice X m cc, .slice none 0 0]) 3).run Try.prog W = .ok (.slice X m cc) W := fun _ _ _ _ => by kernel_rfl
  go_enter Try.func5, Try.ntmps5
  go_wp2_with fail
  refine HCut.out.mono ?_
  rintro e w1 ⟨A1, c1, rfl, hrd, hO1, hc1⟩
  have hl8 := cutR_len recs
  have hsm : ∀ i, i < (cutR recs).length → ((cutR recs).getD i []).length ≤ 300 := fun i _ => cutR_small recs i
  generalize cutR recs = rs at *
  have HX := hide (And.intro hrd hsm)
  have O1 := hide hO1
  have hMl := hide (HM.out.1.only hO1 fun _ _ => id)
  have HN := hide (new_any w1 16777216 (by omega) (by omega))
  clear hrd hO1 hsm
  go_wp2_with fail
  refine HN.out.mono ?_
  rintro e w2 ⟨rfl, rfl⟩
  have hnew := new_in w1 (n := 16777216) (by omega)
  have hO2 : Only (fun _ => False) w1 (w1.alloc (.cells (diskArr (DS.new 16777216) (fun _ => .slice none 0 0)) 55)) := (Only.refl _ w1).alloc _
  have hsz : (w1.alloc (.cells (diskArr (DS.new 16777216) (fun _ => .slice none 0 0)) 55)).heap.size = w1.heap.size + 1 := by simp
  obtain ⟨w2, hw2⟩ : ∃ w2, w1.alloc (.cells (diskArr (DS.new (Int.toNat 16777216)) (fun _ => .slice none 0 0)) 55) = w2 := ⟨_, rfl⟩
  have hw2' : w1.alloc (.cells (diskArr (DS.new 16777216) (fun _ => .slice none 0 0)) 55) = w2 := hw2
  rw [hw2'] at hnew hO2 hsz
  rw [hw2]
  have HOp := hide (open_js (w0 := w1) (w := w2) (f := 1) (recs := []) hnew (fun k hk => by rw [hk, hsz]; omega) (by omega) (new_calm 16777216) [] rfl (fun i hi => by cases hi) torn_nil (by simp) (fun x hx => by rw [hx]; omega) hO2)
  clear hnew hO2 hsz hw2 hw2'
  go_wp2_with fail
  refine HOp.out.mono ?_
  rintro e w3 ⟨b, R3, S3, d3, rfl, hJ3, hroom3, hused3, -⟩
  have K3 := hide hJ3
  have hfr := frames_bound 8 HX.out.2 hl8
  have HRw := hide (K3.out.rewrite (Only.refl _ _) (by omega) A1 rs.length c1 (HX.out.1.only K3.out.only fun _ _ => id) (fun k hk => .inl hk) (fun i hi => by have := HX.out.2 i hi; omega) (by omega) (by omega) (by rw [hroom3]; rw [new_used] at hused3; simp only [DS.new]; omega))
  have HR3 : Hid (d3.room = 16777216 ∧ d3.used = 0) := ⟨hroom3, by rw [new_used] at hused3; omega⟩
  have HFr := hide hfr
  clear hJ3 hroom3 hused3 hfr
  go_wp2_with fail
  refine HRw.out.mono ?_
  rintro e w4 ⟨rfl, R4, S4, d4, hJ4, hroom4, hused4, -⟩
  have K4 : Hid (JS w1 w4 b w1.heap.size 1 rs d4 R4 S4 ∧ d4.room = 16777216 ∧ d4.used ≤ 3000) := ⟨hJ4, by rw [hroom4]; exact HR3.out.1, by have := HR3.out.2; have := HFr.out; omega⟩
  have HAp := hide (K4.out.1.append (Only.refl _ _) (by omega) (.slice B q bc) ml (hMl.out.only K4.out.1.only fun _ _ => id) (fun k hk => .inl (Cd.rds_lt hMl.out hk)) (by have := HM.out.2; omega) (by have := HM.out.2; have := frame_len (l := ml) (by omega); have := K4.out.2; omega) (by omega) (by have := HFr.out; omega))
  clear hJ4 hroom4 hused4
  go_wp2_with fail
  refine HAp.out.mono ?_
  rintro e w5 ⟨rfl, R5, S5, d5, hJ5, hroom5, hused5, -⟩
  have K5 := hide hJ5
  clear hJ5 hroom5 hused5
  go_wp2
  go_loopw [9, 60] (fun v i wr => ∃ k : Nat, k ≤ rs.length ∧ i = .int .i64 k ∧ Hid (Cd.Fresh w5 wr v (framesB (rs.take k)))) (fun _ i _ => rs.length - (intOf i).toNat)
  case atStart => exact ⟨0, by omega, rfl, hide (Cd.Fresh.nil w5)⟩
  case round =>
    obtain ⟨k, hk, rfl, HF⟩ := hrel
    obtain ⟨BA, bm, bcc, rfl⟩ := own_form' HF.out.own
    have Ow := hide (K5.out.only.trans' HF.out.only)
    by_cases hlt : k < rs.length
    · obtain ⟨ab, ao, V, rfl, hT, hcell, hV, -⟩ := (HX.out.1.grow Ow.out).at_ k hlt
      have hrl := HX.out.2 k hlt
      have HTk : Hid (framesB (rs.take k) ++ Cd.leb (Cd.strOf (rs.getD k [])).size ++ (Cd.strOf (rs.getD k [])).data.toList = framesB (rs.take (k + 1))) := by
        show _ = _
        rw [take_succ_recs hlt, framesB_append, framesB_one, Cd.strOf_size, strOf_data']
        unfold frameB
        rw [List.append_assoc]
      generalize rs.getD k [] = r at hV hrl HTk
      obtain ⟨VA, vn, vc, rfl⟩ := Cd.rds_form hV
      have hcv := Cd.run_str hV
      have HA := hide (Cd.appendText_any (w := wr) (.slice BA bm bcc) (framesB (rs.take k)) HF.out.rds (by have := frames_take_le rs k; have := HFr.out; omega) (Cd.strOf r) (by rw [Cd.strOf_size]; omega))
      rw [HTk.out] at HA
      have HLT := hide hlt
      clear HTk hrl hT hV
      go_wp2_with fail
      refine HA.out.mono ?_
      rintro e w6 ⟨v6, rfl, F6⟩
      have HF6 := hide (fresh_trans HF.out.only F6)
      clear F6
      go_wp2
      go_roundw
      case rel => exact ⟨k + 1, HLT.out, by go_num, HF6⟩
      case measure => simp [intOf]; omega
    · obtain rfl : k = rs.length := by omega
      rw [List.take_length] at HF
      have hcv := Cd.run_str (hMl.out.only Ow.out fun _ _ => id)
      have HA := hide (Cd.appendText_any (w := wr) (.slice BA bm bcc) (framesB rs) HF.out.rds (by have := HFr.out; omega) (Cd.strOf ml) (by rw [Cd.strOf_size]; have := HM.out.2; omega))
      rw [show framesB rs ++ Cd.leb (Cd.strOf ml).size ++ (Cd.strOf ml).data.toList = framesB (rs ++ [ml]) by rw [framesB_append, framesB_one, Cd.strOf_size, strOf_data']; unfold frameB; rw [List.append_assoc]] at HA
      go_wp2_with fail
      refine HA.out.mono ?_
      rintro e w6 ⟨v6, rfl, F6⟩
      have HF6 := hide (fresh_trans HF.out.only F6)
      obtain ⟨CA, cm, ccc, rfl⟩ := own_form' F6.own
      have K6 := hide (K5.out.grow HF6.out.only)
      have hsa := small_all HX.out.2 HM.out.2
      have HSA := hide hsa
      have HOp2 := hide (K6.out.reopen (by omega) (fun i hi => by have := HSA.out i hi; omega) (by rw [List.length_append]; simp; omega))
      clear F6 hcv hsa
      go_wp2_with fail
      refine HOp2.out.mono ?_
      rintro e w7 ⟨b7, R7, S7, d7, rfl, hJ7, -, -, hO7⟩
      have K7 := hide hJ7
      have W7 := hide (HF6.out.rds.only hO7 fun k hk hS => by have h1 := HF6.out.new k (rdBlock_own hk); have h2 := K5.out.jd.low k hS; omega)
      have HR := hide (K7.out.read (by omega))
      clear hJ7 hO7
      go_wp2_with fail
      refine HR.out.mono ?_
      rintro e w8 ⟨v8, rfl, hown, hnew, hO8⟩
      obtain ⟨GA, gm, gc, rfl⟩ := own_form' hown
      have HE := hide (equal_any (Rds.own hown) (W7.out.only hO8 fun _ _ => id))
      rw [decide_eq_true rfl] at HE
      have K8 := hide (K7.out.grow hO8)
      clear hown hnew hO8
      go_wp2_with fail
      refine HE.out.mono ?_
      rintro e w9 ⟨rfl, rfl⟩
      have HRec := hide (records_any K8.out.jd.jin (by rw [List.length_append]; simp; omega) (fun i hi => by have := HSA.out i hi; unfold lim47; omega))
      go_wp2_with fail
      refine HRec.out.mono ?_
      rintro e w10 ⟨v10, rfl, F10⟩
      obtain ⟨_, hV10, _⟩ := F10.own
      obtain ⟨DA, dm, dc, rfl⟩ := own_form' hV10
      have HF10 := hide F10
      have K10 := hide (K8.out.grow F10.only)
      clear F10 hV10
      have X10 := hide (HX.out.1.grow K10.out.only)
      have P11 := hide ((Only.refl (fun _ => False) w10).alloc (.cells #[] 23))
      have C11 := hide (cutV_empty w10)
      obtain ⟨Us, hUl, hUs, hUr⟩ := X10.out.vals P11.out c1 hc1
      have HU := hide (And.intro hUl (And.intro hUs hUr))
      have M10 := hide (hMl.out.only K10.out.only fun _ _ => id)
      clear hUl hUs hUr
      have HUr := hide HU.out.2.2
      go_wp2_with (first
        | (at_builtin; refine wp_recs rfl _ _ rfl (.slice (some ⟨w10.heap.size, 0, none⟩) 0 0) 0 [] rfl (own_empty w10) _ rfl rs.length Us HU.out.2.1 (by omega) ?_; intro v12 w12 g1 g2 g3; rw [Nat.zero_add, List.nil_append] at g1; obtain ⟨QA, qm, qc, rfl⟩ := own_form' g1; have G12 : Hid (CutV w10 w12 (.slice QA qm qc) rs) := C11.out.pushAll (recs := []) (more := rs) (fun i hi => HU.out.2.2 i hi) (own_empty w10) (fun i hi => by cases hi) (by rw [List.length_nil, Nat.zero_add]; exact g1) g2 g3; have H12 := hide g1; have P13 := hide ((Only.refl (fun _ => False) w12).alloc (.cells #[.slice B q bc] 23)); clear g1 g2 g3)
        | (at_builtin; go_loud (refine wp_recs rfl _ _ rfl (.slice QA qm qc) rs.length Us rfl (P13.out.owns H12.out fun _ _ => id) _ rfl 1 [.slice B q bc] (src_rec w12 _ (by first | rfl | simp) _ _ _) (by omega) ?_; intro v14 w14 g1 g2 g3; obtain ⟨EA, em, ec, rfl⟩ := own_form' g1; have G14 : Hid (CutV w10 w14 (.slice EA em ec) (rs ++ [ml])) := (G12.out.grow P13.out).push M10.out (P13.out.owns H12.out fun _ _ => id) HUr.out g1 g2 g3; clear g1 g2 g3)))
      obtain ⟨hem, hrd14⟩ := G14.out.rd
      obtain ⟨hdm, hrd10⟩ := HF10.out.rd
      obtain ⟨L, hL⟩ : ∃ L, (rs ++ [ml]).length = L := ⟨_, rfl⟩
      have hL2 : L = rs.length + 1 := by rw [← hL, List.length_append]; rfl
      rw [hL] at hem hdm hrd14 hrd10
      subst hem
      subst hdm
      have HSm := hide (same_eq (c := dc) (d := ec) (hrd10.grow G14.out.only) hrd14 (by omega))
      have HL := hide hL
      have K14 := hide (K10.out.grow G14.out.only)
      have hLI : (dm : Int) = (rs.length : Int) + 1 := by omega
      have hlw : IntKind.i64.wrap ((rs.length : Int) + 1) = (rs.length : Int) + 1 := by rw [IntKind.wrap_i64]; omega
      clear hL hL2 hrd14 hrd10
      refine HSm.out.mono ?_
      rintro e w15 ⟨rfl, hO15⟩
      have K15 := hide (K14.out.grow hO15)
      have HLen := hide (len_any K15.out.jd.jin)
      rw [HL.out] at HLen
      clear hO15
      go_wp2_with fail
      refine HLen.out.mono ?_
      rintro e w16 ⟨rfl, rfl⟩
      go_wp2_with fail
      refine (begun_any _).mono ?_
      rintro e w17 ⟨rfl, hO17⟩
      have K17 := hide (K15.out.grow hO17)
      clear hO17
      go_wp2
      go_ret
      exact ⟨rfl, O1.out.trans' K17.out.only⟩

end Go.Proofs.Ytcedenhfchcgiaa.Jn
