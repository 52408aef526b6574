/- bytes.Equal, the law's same; how a journal lies in memory; Records, Len, size, walked. -/
import Derived.Test.YtcedenhfchcgiaaJn01
import Derived.Deep.RegionWith
set_option linter.unusedVariables false
set_option linter.unusedSimpArgs false
namespace Go.Proofs.Ytcedenhfchcgiaa.Jn
open Go.RowKit

theorem equal_any {w : World} {v1 v2 : Value} {l1 l2 : List UInt8} (h1 : Rds w v1 (bytesV l1)) (h2 : Rds w v2 (bytesV l2)) :
    Calls Try.prog 18 #[v1, v2] w fun e w' => e = .returned (.bool (decide (l1 = l2))) ∧ w = w' := by
  have c1 := Cd.run_str h1
  have c2 := Cd.run_str h2
  obtain ⟨A, n, c, rfl⟩ := Cd.rds_form h1
  obtain ⟨A', n', c', rfl⟩ := Cd.rds_form h2
  clear h1 h2
  go_enter Try.func18, Try.ntmps18
  go_wp2
  go_ret
  refine ⟨?_, rfl⟩
  show Ending.returned (.bool ((Cd.strOf l1).toList == (Cd.strOf l2).toList)) = _
  have e : (l1 == l2) = decide (l1 = l2) := by rw [Bool.eq_iff_iff]; simp
  rw [Cd.strOf_toList, Cd.strOf_toList, e]

set_option maxRecDepth 100000 in
set_option maxHeartbeats 1000000 in
theorem same_eq {w : World} {A B : Option Addr} {n c d : Nat} {recs : List (List UInt8)} {T U : Nat → Prop} (h : RdRecs w A n recs T) (h2 : RdRecs w B n recs U) (hn : n ≤ 1000000) :
    Calls Try.prog 11 #[.slice A n c, .slice B n d] w fun e w' => e = .returned (.bool true) ∧ Only (fun _ => False) w w' := by
  have H := hide h
  have H2 := hide h2
  have HL := hide h.len
  clear h h2
  go_enter Try.func11, Try.ntmps11
  go_wp2
  go_loopw [13] (fun i wr => ∃ k : Nat, k ≤ n ∧ i = .int .i64 k ∧ Hid (Only (fun _ => False) w wr)) (fun i _ => n - (intOf i).toNat)
  case atStart => exact ⟨0, by omega, rfl, Only.refl _ _⟩
  case round =>
    obtain ⟨k, hk, rfl, hO⟩ := hrel
    by_cases hlt : k < n
    · have hk' : k < recs.length := by rw [← HL.out]; exact hlt
      obtain ⟨b, o, V, rfl, hT, c1, hV, -⟩ := (H.out.grow hO.out).at_ k hk'
      obtain ⟨b', o', V', rfl, hT', d1, hV', -⟩ := (H2.out.grow hO.out).at_ k hk'
      have HE := hide (equal_any (w := wr.drew) (hV.only ((Only.refl (fun _ => False) wr).drew) fun _ _ => id) (hV'.only ((Only.refl (fun _ => False) wr).drew) fun _ _ => id))
      rw [decide_eq_true rfl] at HE
      obtain ⟨VA, vn, vc, rfl⟩ := Cd.rds_form hV
      obtain ⟨VA', vn', vc', rfl⟩ := Cd.rds_form hV'
      have hk0 : (0 : Int) ≤ (k : Int) := by omega
      have hkn : (k : Int) < n := by omega
      clear hT hT' hV hV'
      go_wp2
      go_region_with (go_at_call 18; refine HE.out.mono ?_; rintro e w2 ⟨rfl, rfl⟩)
      all_goals
        try simp [Act.put]
        go_wp2
        go_roundw
        case rel => exact ⟨k + 1, by omega, by go_num, hide hO.out.drew⟩
        case measure => simp [intOf]; omega
    · obtain rfl : k = n := by omega
      go_wp2
      go_ret
      exact ⟨rfl, hO.out⟩

/-- The bytes of a record, of records. -/
def frameB (l : List UInt8) : List UInt8 := Cd.leb l.length ++ l
def framesB (recs : List (List UInt8)) : List UInt8 := recs.flatMap frameB

/-- Bytes that are read, in a block of bytes that is whole one's own. -/
structure RowB (w : World) (V : Value) (l : List UInt8) : Prop where
  rds : Rds w V (bytesV l)
  blk : ∀ k, V.ownBlock = some k → ∃ cs m, w.heap[k]? = some (.cells cs 5 m)
theorem RowB.own {w : World} {V : Value} {n : Nat} {l : List UInt8} (h : w.ownsRow 0 5 1 V n (bytesV l)) : RowB w V l :=
  ⟨Rds.own h, fun k hk => by obtain ⟨c, hc⟩ := owns_block h hk; exact ⟨c, _, hc⟩⟩
theorem RowB.only {S : Nat → Prop} {w w' : World} {V : Value} {l : List UInt8} (h : RowB w V l) (ho : Only S w w') (hd : ∀ k, V.ownBlock = some k → ¬ S k) : RowB w' V l :=
  ⟨h.rds.only ho fun k hk => hd k (rdBlock_own hk), fun k hk => by obtain ⟨c, m, hc⟩ := h.blk k hk; exact ⟨c, m, ho.heap hc (hd k hk)⟩⟩
theorem RowB.grow {w w' : World} {V : Value} {l : List UInt8} (h : RowB w V l) (ho : Only (fun _ => False) w w') : RowB w' V l := h.only ho fun _ _ => id
theorem RowB.ne {w : World} {b : Nat} {cs : Array Value} {t : TypeId} {V : Value} {l : List UInt8} (h : w.heap[b]? = some (.cells cs t (0, 0))) (ho : RowB w V l) (hne : 5 ≠ t) : V.ownBlock ≠ some b := by
  intro hb
  obtain ⟨c, m, hc⟩ := ho.blk b hb
  rw [h] at hc
  injection hc with hc
  injection hc with _ hc
  exact hne hc.symm
theorem RowB.apart {w : World} {e : TypeId} {base size n : Nat} {v V : Value} {xs : List Value} {l : List UInt8} (h : w.ownsRow base e size v n xs) (h2 : RowB w V l) (hne : e ≠ 5) : ∀ k, V.ownBlock = some k → v.ownBlock ≠ some k := by
  intro k h3 h4
  obtain ⟨c1, e1⟩ := owns_block h h4
  exact RowB.ne e1 h2 (fun e => hne e.symm) h3
theorem RowB.lt {w : World} {V : Value} {l : List UInt8} (h : RowB w V l) {k : Nat} (hk : V.ownBlock = some k) : k < w.heap.size := by
  obtain ⟨c, m, hc⟩ := h.blk k hk
  exact heap_lt hc

/-- A journal lies at block b, its disk at block db; what is its own lies within R. -/
structure JIn (w : World) (b db : Nat) (file : Int) (recs : List (List UInt8)) (R : Nat → Prop) : Prop where
  at_ : ∃ (RS ES : Value) (Vs Es : List Value), w.heap[b]? = some (.cells #[.pointer (some ⟨db, 0, none⟩), .int .i64 file, RS, ES, .bool false] 57 (0, 0)) ∧
    w.ownsRow 0 23 1 RS recs.length Vs ∧ (∀ i, i < recs.length → ∃ V, Vs[i]? = some V ∧ RowB w V (recs.getD i []) ∧ ∀ k, V.ownBlock = some k → R k) ∧
    w.ownsRow 0 3 1 ES recs.length Es ∧ (∀ i, i < recs.length → Es[i]? = some (.int .i64 (framesB (recs.take (i + 1))).length)) ∧
    (∀ k, RS.ownBlock = some k → R k) ∧ (∀ k, ES.ownBlock = some k → R k)
  foot : R b
  low : ∀ k, R k → k < w.heap.size
theorem JIn.only {S R : Nat → Prop} {w w' : World} {b db : Nat} {file : Int} {recs : List (List UInt8)} (h : JIn w b db file recs R) (ho : Only S w w') (hd : ∀ k, R k → ¬ S k) : JIn w' b db file recs R := by
  obtain ⟨RS, ES, Vs, Es, h1, h2, h3, h4, h5, h6, h7⟩ := h.at_
  refine ⟨⟨RS, ES, Vs, Es, ho.heap h1 (hd b h.foot), ho.owns h2 (fun k hk => hd k (h6 k hk)), fun i hi => ?_, ho.owns h4 (fun k hk => hd k (h7 k hk)), h5, h6, h7⟩, h.foot, fun k hk => Nat.lt_of_lt_of_le (h.low k hk) ho.size⟩
  obtain ⟨V, e, g1, g2⟩ := h3 i hi
  exact ⟨V, e, g1.only ho fun k hk => hd k (g2 k hk), g2⟩

set_option maxRecDepth 100000 in
theorem records_any {w : World} {b db : Nat} {file : Int} {recs : List (List UInt8)} {R : Nat → Prop} (h : JIn w b db file recs R) (hn : recs.length ≤ 1000) (hl : ∀ i, i < recs.length → (recs.getD i []).length ≤ lim47) :
    Calls Try.prog 10 #[.pointer (some ⟨b, 0, none⟩)] w fun e w' => ∃ v, e = .returned v ∧ FreshRecs w w' v recs := by
  obtain ⟨RS, ES, Vs, Es, h1, h2, h3, -⟩ := h.at_
  obtain ⟨A, m, c, rfl⟩ := own_form' h2
  obtain rfl := Cd.own_n h2
  have hrd : RdRecs w A recs.length recs R := by
    refine ⟨rfl, fun i hi => ?_⟩
    obtain ⟨V, e, g1, g2⟩ := h3 i hi
    rcases h2.2 with ⟨h3, h4⟩ | ⟨g, cap, cur, hv, hb, hh, hnn, hc, hs, ht⟩
    · omega
    · injection hv with e1 e2 e3
      subst e1
      have hc := h2.cells (g := g) rfl i V e
      rw [addr_eta _ rfl] at hc
      obtain ⟨RS', ES', Vs', Es', k1, k2, k3, k4, k5, k6, k7⟩ := h.at_
      have hRg : R g := by
        rw [h1] at k1
        injection k1 with k1
        injection k1 with k1 _
        have := congrArg (fun a => a[2]?) k1
        simp at this
        subst this
        exact k6 g rfl
      exact ⟨g, 0, V, rfl, hRg, hc, g1.rds, fun k hk => g2 k (rdBlock_own hk)⟩
  have c2 := cell_of_heap h1 2
  simp at c2
  have HC := hide (copied_any A recs.length c recs hrd hn hl)
  clear h h1 h2 h3 hrd
  go_enter Try.func10, Try.ntmps10
  go_wp2_with fail
  refine HC.out.mono ?_
  rintro e w2 ⟨v, rfl, F⟩
  obtain ⟨Vs2, hVs2, _⟩ := F.own
  obtain ⟨A2, n2, c2', rfl⟩ := own_form' hVs2
  have F2 := hide F
  clear F hVs2
  go_wp2
  go_ret
  exact ⟨_, rfl, F2.out⟩

theorem len_any {w : World} {b db : Nat} {file : Int} {recs : List (List UInt8)} {R : Nat → Prop} (h : JIn w b db file recs R) :
    Calls Try.prog 19 #[.pointer (some ⟨b, 0, none⟩)] w fun e w' => e = .returned (.int .i64 recs.length) ∧ w' = w := by
  obtain ⟨RS, ES, Vs, Es, h1, h2, -⟩ := h.at_
  obtain ⟨A, m, c, rfl⟩ := own_form' h2
  obtain rfl := Cd.own_n h2
  have c2 := cell_of_heap h1 2
  simp at c2
  clear h h1 h2
  go_enter Try.func19, Try.ntmps19
  go_wp2
  go_ret
  exact ⟨rfl, rfl⟩

set_option maxRecDepth 100000 in
theorem size_any {w : World} {b db : Nat} {file : Int} {recs : List (List UInt8)} {R : Nat → Prop} (h : JIn w b db file recs R) (n : Nat) (hn : n ≤ recs.length) (hnn : recs.length ≤ 1000000) :
    Calls Try.prog 23 #[.pointer (some ⟨b, 0, none⟩), .int .i64 n] w fun e w' => e = .returned (.int .i64 (framesB (recs.take n)).length) ∧ w' = w := by
  by_cases h0 : n = 0
  · subst h0
    clear h
    go_enter Try.func23, Try.ntmps23
    go_wp2
    go_ret
    exact ⟨rfl, rfl⟩
  · obtain ⟨RS, ES, Vs, Es, h1, h2, h3, h4, h5, h6, h7⟩ := h.at_
    obtain ⟨A, m, c, rfl⟩ := own_form' h4
    obtain rfl := Cd.own_n h4
    have c3 := cell_of_heap h1 3
    simp at c3
    obtain ⟨k, rfl⟩ : ∃ k, n = k + 1 := ⟨n - 1, by omega⟩
    have hcell : ∃ g, A = some ⟨g, 0, none⟩ ∧ w.cell? ⟨g, k, none⟩ = some (.int .i64 (framesB (recs.take (k + 1))).length) := by
      rcases h4.2 with ⟨h8, h9⟩ | ⟨g, cap, cur, hv, hb, hh, hnc, hc, hs, ht⟩
      · omega
      · injection hv with e1 e2 e3
        subst e1
        have hc := h4.cells (g := g) rfl k _ (h5 k (by omega))
        rw [addr_eta _ rfl] at hc
        simp only [Nat.zero_add] at hc
        exact ⟨g, rfl, hc⟩
    obtain ⟨g, rfl, hc⟩ := hcell
    have hkI : ¬ ((k : Int) + 1 = 0) := by omega
    have hk0 : (0 : Int) ≤ (k : Int) := by omega
    have hk1 : (k : Int) < recs.length := by omega
    have hkw : IntKind.i64.wrap ((k : Int) + 1 - 1) = k := by rw [IntKind.wrap_i64]; omega
    generalize (framesB (recs.take (k + 1))).length = z at *
    clear h h1 h2 h3 h4 h5 h6 h7
    go_enter Try.func23, Try.ntmps23
    go_wp2
    go_ret
    exact ⟨rfl, rfl⟩

end Go.Proofs.Ytcedenhfchcgiaa.Jn
