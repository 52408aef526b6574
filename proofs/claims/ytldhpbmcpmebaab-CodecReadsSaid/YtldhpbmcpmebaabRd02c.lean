/- The decoder's value, walked. -/
import Derived.Test.YtldhpbmcpmebaabRd02b
import Derived.Test.YtldhpbmcpmebaabCase02b
set_option linter.unusedVariables false
set_option linter.unusedSimpArgs false
namespace Go.Proofs.Ytldhpbmcpmebaab.Cd
open Go.RowKit

/-- A value, as an aggregate. -/
def aggV (v : VD) : Value := .agg #[.int .i64 v.kind, .int .i64 v.n, .string v.s]
theorem aggV_mk (k n : Int) (s : ByteArray) : aggV ⟨k, n, s⟩ = .agg #[.int .i64 k, .int .i64 n, .string s] := rfl
/-- A block of three cells, as facts. -/
theorem three_facts {w : World} {p : Nat} {a b c : Value} {t : TypeId} (h : w.heap[p]? = some (.cells #[a, b, c] t (0, 0))) : w.cell? ⟨p, 0, none⟩ = some a ∧ w.cell? ⟨p, 1, none⟩ = some b ∧ w.cell? ⟨p, 2, none⟩ = some c ∧ w.frozen? ⟨p, 0, none⟩ = false ∧ w.frozen? ⟨p, 1, none⟩ = false ∧ w.frozen? ⟨p, 2, none⟩ = false :=
  ⟨cell_of_heap h 0, cell_of_heap h 1, cell_of_heap h 2, frozen_of_heap h 0, frozen_of_heap h 1, frozen_of_heap h 2⟩

theorem heap_keep {w : World} {p : Nat} {o : Obj} (h : w.heap[p]? = some o) (o2 : Obj) : (w.alloc o2).heap[p]? = some o := ((Only.refl (fun _ => False) w).alloc o2).heap h id

set_option maxRecDepth 100000 in
set_option maxHeartbeats 1000000 in
theorem dvalue_any {w : World} {g : Nat} {v : Value} {k : Nat} {l : List UInt8} (h : Dec w g v k) (hv : Rds w v (bytesV l)) (hvg : rdBlock v ≠ some g) (hl : l.length ≤ 9223372036854775000) (hk : k ≤ l.length) :
    Calls Try.prog 78 #[.pointer (some ⟨g, 0, none⟩)] w (ReadsEnd w g v (aggV (rdVal l k).1) (rdVal l k).2.1 (rdVal l k).2.2) := by
  obtain ⟨rt, hrt⟩ : ∃ r, rdVal l k = r := ⟨_, rfl⟩
  rw [hrt]
  unfold rdVal at hrt
  have hg := heap_lt h
  have ho : Only (fun y => y = g) w (w.alloc (.cells #[.int .i64 0, .int .i64 0, .string ⟨#[]⟩] 24)) := (Only.refl _ w).alloc _
  have ho2 : Only (fun _ => False) w (w.alloc (.cells #[.int .i64 0, .int .i64 0, .string ⟨#[]⟩] 24)) := (Only.refl _ w).alloc _
  have hD : Dec (w.alloc (.cells #[.int .i64 0, .int .i64 0, .string ⟨#[]⟩] 24)) g v k := ho2.heap h id
  have HV := hide (fun (w2 : World) (ho : Only (fun y => y = g) w w2) => hv.only ho fun y hy e => hvg (by rw [hy, e]))
  have HO := hide ho
  have HP := hide (heap_alloc_new w (.cells #[.int .i64 0, .int .i64 0, .string ⟨#[]⟩] 24))
  by_cases hlt : k < l.length
  · have HB := hide (byte_ok hD (HV.out _ ho) hlt (by omega))
    rw [dif_pos hlt] at hrt
    have hc := l[k].toNat_lt
    obtain ⟨c, hcc⟩ : ∃ c, l[k].toNat = c := ⟨_, rfl⟩
    rw [hcc] at HB hrt hc
    have HT := hide hrt
    clear h hv hrt ho ho2 hD hcc
    go_enter Try.func78, Try.ntmps78
    go_wp2_with fail
    refine HB.out.mono ?_
    rintro e w2 ⟨rfl, hD, hO⟩
    have D2 := hide hD
    have O2 : Hid (Only (fun y => y = g) w w2) := HO.out.trans' hO
    have P2 := hide (hO.heap HP.out (by omega))
    have hp2 : Hid (w.heap.size < w2.heap.size) := heap_lt P2.out
    clear hD hO HB
    by_cases hc12 : c = 1 ∨ c = 2
    · have X := fun o => three_facts (heap_keep P2.out o)
      have x0 := fun o => (X o).1
      have x1 := fun o => (X o).2.1
      have x2 := fun o => (X o).2.2.1
      have y0 := fun o => (X o).2.2.2.1
      have y1 := fun o => (X o).2.2.2.2.1
      have y2 := fun o => (X o).2.2.2.2.2
      clear X
      have hne : w.heap.size ≠ w2.heap.size := Nat.ne_of_lt hp2.out
      have hne2 := hne.symm
      rcases hc12 with rfl | rfl
      · go_wp2
        have ht := HT.out
        simp at ht
        subst ht
        refine bodyPost_ret (v := .agg #[.int .i64 1, .int .i64 0, .string ⟨#[]⟩]) (by simp [results, Try.results78, go_sem, x0, x1, x2]) rfl ⟨?_, .inl ⟨rfl, rfl, ?_⟩⟩
        · exact (O2.out.alloc _).trans (only_set3 _ w.heap.size _ _ _) fun x hx e => by omega
        · exact (only_set3 _ w.heap.size _ _ _).heap (heap_keep D2.out _) (fun e => by omega)
      · go_wp2
        have ht := HT.out
        simp at ht
        subst ht
        refine bodyPost_ret (v := .agg #[.int .i64 2, .int .i64 0, .string ⟨#[]⟩]) (by simp [results, Try.results78, go_sem, x0, x1, x2]) rfl ⟨?_, .inl ⟨rfl, rfl, ?_⟩⟩
        · exact (O2.out.alloc _).trans (only_set3 _ w.heap.size _ _ _) fun x hx e => by omega
        · exact (only_set3 _ w.heap.size _ _ _).heap (heap_keep D2.out _) (fun e => by omega)
    · have hne : w.heap.size ≠ w2.heap.size := Nat.ne_of_lt hp2.out
      have hne2 := hne.symm
      have n1 : ¬ c = 1 := fun e => hc12 (.inl e)
      have n2 : ¬ c = 2 := fun e => hc12 (.inr e)
      have hg2 : Hid (g < w2.heap.size) := heap_lt D2.out
      clear hc12
      by_cases n3 : c = 3
      · subst n3
        have D3 := hide (heap_keep D2.out (.cells #[.int .i64 3, .int .i64 0, .string ⟨#[]⟩] 24))
        have Q3 := hide (heap_alloc_new w2 (.cells #[.int .i64 3, .int .i64 0, .string ⟨#[]⟩] 24))
        have P3 := hide (heap_keep P2.out (.cells #[.int .i64 3, .int .i64 0, .string ⟨#[]⟩] 24))
        have O3 := hide (O2.out.alloc (.cells #[.int .i64 3, .int .i64 0, .string ⟨#[]⟩] 24))
        by_cases hlt2 : k + 1 < l.length
        · have HB := hide (byte_ok D3.out (HV.out _ O3.out) hlt2 (by omega))
          have hd := l[k + 1].toNat_lt
          have ht := HT.out
          rw [if_neg (by omega), if_pos rfl, dif_pos hlt2] at ht
          obtain ⟨d, hdd⟩ : ∃ d, l[k + 1].toNat = d := ⟨_, rfl⟩
          rw [hdd] at HB ht hd
          have HT2 := hide ht
          clear ht HT hdd
          go_wp2_with fail
          refine HB.out.mono ?_
          rintro e w4 ⟨rfl, hD, hO⟩
          have D4 := hide hD
          have O4 := hide (O3.out.trans' hO)
          obtain ⟨x0, x1, x2, y0, y1, y2⟩ := three_facts (hO.heap Q3.out (by have := hg2.out; omega))
          obtain ⟨p0, p1, p2, q0, q1, q2⟩ := three_facts (hO.heap P3.out (by omega))
          clear hD hO HB
          by_cases hd1 : 1 < d
          · have hdI : (1 : Int) < d := by omega
            have ht := HT2.out
            rw [if_pos hd1] at ht
            subst ht
            go_wp2_with (go_at_call 75; refine (stop_any _ _ _).mono ?_; rintro e w5 ⟨rfl, rfl⟩)
            exact ⟨rfl, O4.out.setCell (p := ⟨w2.heap.size, 1, none⟩) (.inr (by have := hp2.out; show w.heap.size ≤ w2.heap.size; omega)) _, .inr ⟨by decide, rfl⟩⟩
          · have hdI : ¬ (1 : Int) < d := by omega
            have ht := HT2.out
            rw [if_neg hd1] at ht
            subst ht
            go_wp2
            refine bodyPost_ret (v := .agg #[.int .i64 3, .int .i64 (d : Int), .string ⟨#[]⟩]) (by simp [results, Try.results78, go_sem, x0, x1, x2, p0, p1, p2]) rfl ⟨?_, .inl ⟨rfl, rfl, ?_⟩⟩
            · exact ((O4.out.setCell (p := ⟨w2.heap.size, 1, none⟩) (.inr (by have := hp2.out; show w.heap.size ≤ w2.heap.size; omega)) _)).trans (only_set3 _ w.heap.size _ _ _) fun x hx e => by omega
            · exact (only_set3 _ w.heap.size _ _ _).heap (((Only.refl (fun y => y = w2.heap.size) w4).setCell (p := ⟨w2.heap.size, 1, none⟩) (.inl rfl) _).heap D4.out (fun e => by have := hg2.out; omega)) (fun e => by omega)
        · have HB := hide (byte_bad D3.out (HV.out _ O3.out) (by omega))
          have ht := HT.out
          rw [if_neg (by omega), if_pos rfl, dif_neg hlt2] at ht
          subst ht
          go_wp2_with fail
          refine HB.out.mono ?_
          rintro e w4 ⟨⟨q, rfl⟩, rfl⟩
          exact ⟨rfl, O3.out.drewN q, .inr ⟨by decide, rfl⟩⟩
      by_cases n4 : c = 4
      · subst n4
        have D3 := hide (heap_keep D2.out (.cells #[.int .i64 4, .int .i64 0, .string ⟨#[]⟩] 24))
        have Q3 := hide (heap_alloc_new w2 (.cells #[.int .i64 4, .int .i64 0, .string ⟨#[]⟩] 24))
        have P3 := hide (heap_keep P2.out (.cells #[.int .i64 4, .int .i64 0, .string ⟨#[]⟩] 24))
        have O3 := hide (O2.out.alloc (.cells #[.int .i64 4, .int .i64 0, .string ⟨#[]⟩] 24))
        have HB := hide (dint_any D3.out (HV.out _ O3.out) hvg hl hlt)
        have ht := HT.out
        rw [if_neg (by omega), if_neg (by omega), if_pos rfl] at ht
        obtain ⟨⟨rn, rx, rc⟩, hr⟩ : ∃ r, rdUint l (k + 1) = r := ⟨_, rfl⟩
        rw [hr] at HB ht
        simp only at ht
        have HT2 := hide ht
        clear ht HT hr
        go_wp2_with fail
        refine HB.out.mono ?_
        rintro e w4 ⟨hO, hE⟩
        have O4 := hide (O3.out.trans' hO)
        rcases hE with ⟨h0, rfl, hD⟩ | ⟨h0, rfl⟩
        · try simp only at h0
          subst h0
          have D4 := hide hD
          obtain ⟨x0, x1, x2, y0, y1, y2⟩ := three_facts (hO.heap Q3.out (by have := hg2.out; omega))
          obtain ⟨p0, p1, p2, q0, q1, q2⟩ := three_facts (hO.heap P3.out (by omega))
          clear hD hO HB
          have ht := HT2.out
          rw [if_pos rfl] at ht
          subst ht
          go_wp2
          refine bodyPost_ret (v := .agg #[.int .i64 4, .int .i64 (unzig rn), .string ⟨#[]⟩]) (by simp [results, Try.results78, go_sem, x0, x1, x2, p0, p1, p2]) rfl ⟨?_, .inl ⟨rfl, rfl, ?_⟩⟩
          · exact ((O4.out.setCell (p := ⟨w2.heap.size, 1, none⟩) (.inr (by have := hp2.out; show w.heap.size ≤ w2.heap.size; omega)) _)).trans (only_set3 _ w.heap.size _ _ _) fun x hx e => by omega
          · exact (only_set3 _ w.heap.size _ _ _).heap (((Only.refl (fun y => y = w2.heap.size) w4).setCell (p := ⟨w2.heap.size, 1, none⟩) (.inl rfl) _).heap D4.out (fun e => by have := hg2.out; omega)) (fun e => by omega)
        · try simp only at h0
          have ht := HT2.out
          rw [if_neg h0] at ht
          subst ht
          exact ⟨rfl, O4.out, .inr ⟨h0, rfl⟩⟩
      by_cases n5 : c = 5
      · subst n5
        have D3 := hide (heap_keep D2.out (.cells #[.int .i64 5, .int .i64 0, .string ⟨#[]⟩] 24))
        have Q3 := hide (heap_alloc_new w2 (.cells #[.int .i64 5, .int .i64 0, .string ⟨#[]⟩] 24))
        have P3 := hide (heap_keep P2.out (.cells #[.int .i64 5, .int .i64 0, .string ⟨#[]⟩] 24))
        have O3 := hide (O2.out.alloc (.cells #[.int .i64 5, .int .i64 0, .string ⟨#[]⟩] 24))
        have HB := hide (dtext_any D3.out (HV.out _ O3.out) hvg hl hlt 64 (by omega))
        have ht := HT.out
        rw [if_neg (by omega), if_neg (by omega), if_neg (by omega), if_pos rfl] at ht
        obtain ⟨⟨rn, rx, rc⟩, hr⟩ : ∃ r, rdText l (k + 1) 64 = r := ⟨_, rfl⟩
        rw [hr] at HB ht
        simp only at ht
        have HT2 := hide ht
        clear ht HT hr
        go_wp2_with fail
        refine HB.out.mono ?_
        rintro e w4 ⟨hO, hE⟩
        have O4 := hide (O3.out.trans' hO)
        rcases hE with ⟨h0, rfl, hD⟩ | ⟨h0, rfl⟩
        · try simp only at h0
          subst h0
          have D4 := hide hD
          obtain ⟨x0, x1, x2, y0, y1, y2⟩ := three_facts (hO.heap Q3.out (by have := hg2.out; omega))
          obtain ⟨p0, p1, p2, q0, q1, q2⟩ := three_facts (hO.heap P3.out (by omega))
          clear hD hO HB
          have ht := HT2.out
          rw [if_pos rfl] at ht
          subst ht
          go_wp2
          refine bodyPost_ret (v := .agg #[.int .i64 5, .int .i64 0, .string rn]) (by simp [results, Try.results78, go_sem, x0, x1, x2, p0, p1, p2]) rfl ⟨?_, .inl ⟨rfl, rfl, ?_⟩⟩
          · exact ((O4.out.setCell (p := ⟨w2.heap.size, 2, none⟩) (.inr (by have := hp2.out; show w.heap.size ≤ w2.heap.size; omega)) _)).trans (only_set3 _ w.heap.size _ _ _) fun x hx e => by omega
          · exact (only_set3 _ w.heap.size _ _ _).heap (((Only.refl (fun y => y = w2.heap.size) w4).setCell (p := ⟨w2.heap.size, 2, none⟩) (.inl rfl) _).heap D4.out (fun e => by have := hg2.out; omega)) (fun e => by omega)
        · try simp only at h0
          have ht := HT2.out
          rw [if_neg h0] at ht
          subst ht
          exact ⟨rfl, O4.out, .inr ⟨h0, rfl⟩⟩
      have ht := HT.out
      rw [if_neg (by omega), if_neg n3, if_neg n4, if_neg n5] at ht
      subst ht
      go_wp2_with (go_at_call 75; refine (stop_any _ _ _).mono ?_; rintro e w5 ⟨rfl, rfl⟩)
      exact ⟨rfl, O2.out.alloc _, .inr ⟨by decide, rfl⟩⟩
  · have HB := hide (byte_bad hD (HV.out _ ho) (by omega))
    rw [dif_neg hlt] at hrt
    subst hrt
    clear h hv ho ho2 hD
    go_enter Try.func78, Try.ntmps78
    go_wp2_with fail
    refine HB.out.mono ?_
    rintro e w4 ⟨⟨q, rfl⟩, rfl⟩
    exact ⟨rfl, HO.out.drewN q, .inr ⟨by decide, rfl⟩⟩

end Go.Proofs.Ytldhpbmcpmebaab.Cd
