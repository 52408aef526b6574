/- DiskCrashes, walked. -/
import Derived.Test.YtldhpbmcpmebaaaCrash22b
set_option linter.unusedVariables false
set_option linter.unusedSimpArgs false
namespace Go.Proofs.Ytldhpbmcpmebaaa
open Go.RowKit

theorem src_last (w2 : World) (A2 : Option Addr) (n2 cap2 : Nat) : Src Try.prog 5 48 (.slice (some ⟨w2.heap.size, 0, none⟩) 1 1) 1 [.int .i64 6, .int .i64 0, .int .i64 0, .slice none 0 0, .slice A2 n2 cap2] (w2.alloc (.cells #[.int .i64 6, .int .i64 0, .int .i64 0, .slice none 0 0, .slice A2 n2 cap2] 51)) := by
  refine Src.ofSlice _ Try.underlying48 _ 1 1 _ rfl (fun j u hj => ?_) (fun u hu => ?_)
  · rw [addr_eta _ rfl]
    simp only [Nat.zero_add]
    rw [cell_of_heap (heap_alloc_new w2 _)]
    simpa using hj
  · simp only [List.mem_cons, List.not_mem_nil, or_false] at hu
    rcases hu with rfl | rfl | rfl | rfl | rfl <;> rfl
/-- Behind an append of calls onto nil. -/
theorem newOfC {w w' : World} {v : Value} {n : Nat} {xs : List Value} (g1 : w'.ownsRow 0 51 5 v n xs) (g2 : w.grownBy w' (Value.slice none 0 0).ownBlock) (g3 : v.ownBlock = (Value.slice none 0 0).ownBlock ∨ ∃ k, v.ownBlock = some k ∧ w.heap.size ≤ k) :
    Only (fun _ => False) w w' ∧ ∀ k, v.ownBlock = some k → w.heap.size ≤ k := by
  refine ⟨(Only.refl _ w).grown g2 (fun k hk => by cases hk), fun k hk => ?_⟩
  rcases g3 with g3 | ⟨k', g3, h⟩
  · rw [g3] at hk; cases hk
  · rw [g3] at hk; injection hk with hk; omega
/-- Behind the second append. -/
theorem newOfC2 {w0 w w' : World} {v v' : Value} {n : Nat} {xs : List Value} (h0 : w0.heap.size ≤ w.heap.size) (hv : ∀ k, v.ownBlock = some k → w0.heap.size ≤ k) (g1 : w'.ownsRow 0 51 5 v' (n + 1) xs) (g2 : w.grownBy w' v.ownBlock) (g3 : v'.ownBlock = v.ownBlock ∨ ∃ k, v'.ownBlock = some k ∧ w.heap.size ≤ k) :
    ∃ g c, v' = .slice (some ⟨g, 0, none⟩) (n + 1) c ∧ w0.heap.size ≤ g ∧ g < w'.heap.size := by
  rcases g1.2 with ⟨_, h⟩ | ⟨g, cap, cur, rfl, hb, hh, _⟩
  · omega
  · refine ⟨g, cap, rfl, ?_, heap_lt hh⟩
    rcases g3 with g3 | ⟨k, g3, hk⟩
    · exact hv g (by rw [← g3]; rfl)
    · have : g = k := by simpa [Value.ownBlock] using g3
      omega

theorem RdCalls.row {w : World} {g n : Nat} {cs : List CallD} {T : Nat → Prop} (h : RdCalls w (some ⟨g, 0, none⟩) n cs T) {i : Nat} (hi : i < n) : ∃ vB vK,
    w.cell? ⟨g, i * 5, none⟩ = some (.int .i64 (cs.getD i ⟨0, 0, 0, [], []⟩).kind) ∧ w.cell? ⟨g, i * 5 + 1, none⟩ = some (.int .i64 (cs.getD i ⟨0, 0, 0, [], []⟩).file) ∧ w.cell? ⟨g, i * 5 + 2, none⟩ = some (.int .i64 (cs.getD i ⟨0, 0, 0, [], []⟩).n) ∧
    w.cell? ⟨g, i * 5 + 3, none⟩ = some vB ∧ w.cell? ⟨g, i * 5 + 4, none⟩ = some vK ∧ CallV w (cs.getD i ⟨0, 0, 0, [], []⟩) vB vK T ∧ (cs.getD i ⟨0, 0, 0, [], []⟩).n ≤ 9223372036854775807 := by
  obtain ⟨b', o', vB, vK, hA, hT, h1, h2, h3, h4, h5, h6, h7⟩ := h.at_ i (by have := h.len; omega)
  injection hA with hA
  injection hA with e1 e2
  subst e1 e2
  simp only [Nat.zero_add] at h1 h2 h3 h4 h5
  exact ⟨vB, vK, h1, h2, h3, h4, h5, h6, h7⟩
/-- A list that files has made. -/
theorem RdFS.form8 {w : World} {v : Value} {d : DS} {T : Nat → Prop} (h : RdFS w v d.all T) : ∃ b o c, v = .slice (some ⟨b, o, none⟩) 8 c := by
  obtain ⟨vs, h1, h2, h3, h4, h5⟩ := h
  obtain ⟨A, c, rfl, hc⟩ := h1.cellAt
  rw [h2] at hc ⊢
  obtain ⟨b, o, rfl, -, -⟩ := hc 0 (show 0 < 8 by omega)
  exact ⟨b, o, c, rfl⟩
theorem RdFS.file {w : World} {b o c : Nat} {d : DS} {T : Nat → Prop} (h : RdFS w (.slice (some ⟨b, o, none⟩) 8 c) d.all T) {i : Nat} (hi : i < 8) : ∃ E ec, w.cell? ⟨b, o + i, none⟩ = some (.slice E (d.len i) ec) ∧ d.len i ≤ ec ∧ Rds w (.slice E (d.len i) ec) (bytesV (d.data i)) := by
  obtain ⟨vs, h1, h2, h3, h4, h5⟩ := h
  obtain ⟨A, c', e, hc⟩ := h1.cellAt
  injection e with e1 e2 e3
  subst e1
  obtain ⟨b', o', hA, -, hcell⟩ := hc i (by rw [h2]; exact hi)
  injection hA with hA
  injection hA with e4 e5
  subst e4 e5
  have hr := h3 i hi
  rw [all_getD d hi] at hr
  have hr' := hr
  obtain ⟨E, ec, eq, hle, hrest⟩ := hr
  rw [bytesV_length] at eq hle
  exact ⟨E, ec, by rw [hcell, eq]; rfl, hle, by rw [eq] at hr'; exact hr'⟩

set_option maxRecDepth 100000 in
set_option maxHeartbeats 8000000 in
theorem diskCrashes_any {w : World} (room : Nat) (hr : room ≤ 65535) (A : Option Addr) (n cap : Nat) (cs : List CallD) (hc : RdCalls w A n cs (fun x => x < w.heap.size)) (hn : n ≤ cap)
    (A2 : Option Addr) (n2 cap2 : Nat) (keep : List Int) (hk : Rds w (.slice A2 n2 cap2) (intsV keep)) (hbl : ∀ k, rdBlock (.slice A2 n2 cap2) = some k → k < w.heap.size) :
    Calls Try.prog 8 #[.int .u16 room, .slice A n cap, .slice A2 n2 cap2] w fun e w' => e = .returned (.bool true) ∧ Only (fun _ => False) w w' := by
  obtain ⟨m, hmm⟩ : ∃ m, m = min n 200 := ⟨_, rfl⟩
  have hc2 := hc.take m hmm
  have hmin : (if (200 : Int) < (n : Int) then (200 : Int) else n) = (m : Int) := by rw [hmm]; split <;> omega
  have hmc : m ≤ cap := by omega
  have hm2 : m ≤ 200 := by omega
  generalize cs.take 200 = cs at *
  obtain ⟨news, hnl, hsrc, hnews⟩ := calls_src (cap := cap) hc2
  have HC := hide hc2
  have HNL := hide hnl
  have HSRC := hide hsrc
  have HNEWS := hide hnews
  have HKP := hide (And.intro hk hbl)
  have hN := hide (made_held w room hr)
  clear hc hc2 hmm hnl hsrc hnews hk hbl
  go_enter Try.func8, Try.ntmps8
  go_wp2_with (first
    | go_at_call 32; refine hN.out.mono ?_; rintro e w1 ⟨b, S0, rfl, h1, h2, h3⟩; have A0 := hide h1; have O0 := hide h2; have N0 := hide h3; clear h1 h2 h3
    | (at_builtin; refine wp_appC rfl _ _ rfl (.slice none 0 0) 0 [] rfl (World.ownsRow_nil _ _ _ _) _ rfl m news (HSRC.out _ (O0.out.alloc _)) (by omega) (by omega) ?_; intro v1 w2 g1 g2 g3; rw [List.nil_append, Nat.zero_add] at g1; obtain ⟨A1, n1, c1, rfl⟩ := own_form' g1; have P1 := hide g1; have P2 := hide (newOfC g1 g2 g3); clear g1 g2 g3)
    | (at_builtin; refine wp_appC rfl _ _ rfl (.slice A1 n1 c1) m news rfl (P1.out.alloc _) _ rfl 1 [.int .i64 6, .int .i64 0, .int .i64 0, .slice none 0 0, .slice A2 n2 cap2] (src_last w2 A2 n2 cap2) (by omega) (by omega) ?_; intro v2 w3 g1 g2 g3; obtain ⟨gc, c2, rfl, hg, hgl⟩ := newOfC2 (w0 := w1.alloc (.cells (safeArr fun _ => 0) 59)) (Nat.le_trans P2.out.1.size (by simp)) P2.out.2 g1 g2 g3; have L1 := hide g1; have L2 := hide g2; have L3 := hide (And.intro hg hgl); clear g1 g2 g3 hg hgl))
  obtain ⟨g0, hg0⟩ : ∃ g0, g0 = w1.heap.size := ⟨_, rfl⟩
  have K0 : Hid (CrIn w w3 b (DS.new (room % 4001)) S0 g0 (fun _ => 0) (some ⟨gc, 0, none⟩) (m + 1) (cs ++ [lastCall keep]) (fun x => x < w.heap.size ∨ x = gc)) := by
    have hsz : (w1.alloc (.cells (safeArr fun _ => 0) 59)).heap.size = w1.heap.size + 1 := by simp
    obtain ⟨hg, hgl⟩ := L3.out
    have o1 : Only (fun _ => False) (w1.alloc (.cells (safeArr fun _ => 0) 59)) w3 := (P2.out.1.alloc _).grown L2.out fun k hk => .inr (P2.out.2 k hk)
    have o2 : Only (fun _ => False) w1 w3 := ((Only.refl _ w1).alloc _).trans' o1
    have o3 := O0.out.trans' o2
    have hsize := O0.out.size
    have hcl := calls_own HC.out HNL.out HNEWS.out o3 (fun _ _ => id) (HKP.out.1.only o3 fun _ _ => id) HKP.out.2 L1.out
    refine ⟨A0.out.only o2 fun _ _ => id, ?_, hcl, N0.out, fun hs => ?_, ?_, ?_, ?_, ?_, o3⟩
    · rw [hg0]
      exact o1.heap (heap_alloc_new w1 _) id
    · have := A0.out.lt g0 hs
      omega
    · rintro (h | h)
      · omega
      · omega
    · omega
    · rintro x (h | h) hs
      · have := N0.out x hs; omega
      · have := A0.out.lt x hs; omega
    · rintro x (h | h)
      · have := o3.size; omega
      · omega
  have hlast : Hid ((cs ++ [lastCall keep]).getD m ⟨0, 0, 0, [], []⟩ = lastCall keep) := by
    have := HC.out.len
    show _ = _
    rw [List.getD_eq_getElem?_getD, List.getElem?_append_right (by omega), this]
    simp
  have hsafe0 : Hid (SafeOk (DS.new (room % 4001)) (fun _ => 0)) := fun i hi => Nat.zero_le _
  clear P1 P2 L1 L2 L3 HC HNL HSRC HNEWS HKP hmin hN
  rw [← hg0]
  clear hg0
  generalize cs ++ [lastCall keep] = cs' at *
  generalize DS.new (room % 4001) = dn at *
  go_loopw [7, 30] (fun p i wr => ∃ (k b : Nat) (d : DS) (S : Nat → Prop) (s : Nat → Nat), k ≤ m + 1 ∧ i = .int .i64 k ∧ p = .pointer (some ⟨b, 0, none⟩) ∧ CrIn w wr b d S g0 s (some ⟨gc, 0, none⟩) (m + 1) cs' (fun x => x < w.heap.size ∨ x = gc) ∧ SafeOk d s ∧ (k = m + 1 → d.off = false)) (fun _ i _ => m + 1 - (intOf i).toNat)
  case atStart => exact ⟨0, _, _, _, _, by omega, rfl, rfl, K0, hsafe0, fun h => by omega⟩
  case round =>
    obtain ⟨k, b, d, S, s, hk, rfl, rfl, hK, hSafe, hFin⟩ := hrel
    by_cases hlt : k < m + 1
    · obtain ⟨vB, vK, c1, c2, c3, c4, c5, c6, c7⟩ := hK.cl.row hlt
      obtain ⟨cd, hcd⟩ : ∃ cd, cs'.getD k ⟨0, 0, 0, [], []⟩ = cd := ⟨_, rfl⟩
      rw [hcd] at c1 c2 c3 c6 c7
      have hl6 : Hid (k = m → cd.kind = 6) := fun e => by rw [← hcd, e, hlast.out]; rfl
      obtain ⟨BA, Bn, Bc, rfl⟩ := c6.bs.form
      obtain ⟨KA, Kn, Kc, rfl⟩ := c6.keep.form
      have HW := hide ((Only.refl (fun _ => False) wr).alloc (.cells #[.int .i64 cd.kind, .int .i64 cd.file, .int .i64 cd.n, .slice BA Bn Bc, .slice KA Kn Kc] 51))
      have K1 := hide (hK.grow HW.out)
      have C6 := hide (c6.only HW.out (fun _ _ => id))
      have HBox := hide (Box.new wr cd (.slice BA Bn Bc) (.slice KA Kn Kc))
      have HS := hide hSafe
      have hbx : Hid (¬ S wr.heap.size ∧ g0 ≠ wr.heap.size) := ⟨fun hs => Nat.lt_irrefl _ (hK.held.lt _ hs), fun e => by have := heap_lt hK.blk; omega⟩
      clear hK hcd c6 hSafe hFin
      go_wp2_with fail
      refine (files_held K1.out.held).mono ?_
      rintro e w4 ⟨FA, Fn, Fc, T1, rfl, f1, f2, f3, f4⟩
      have K2 := hide (K1.out.grow f3)
      have HF1 := hide f1
      have HT1 : Hid (∀ x, T1 x → ¬ S x ∧ x ≠ g0 ∧ x < w4.heap.size) := fun x hx => ⟨fun hs => by have h1 := (f2 x hx).1; have h2 := K1.out.held.lt x hs; omega, fun e => by have h1 := (f2 x hx).1; have h2 := heap_lt K1.out.blk; omega, (f2 x hx).2⟩
      obtain ⟨x0, x1, x2, x3, x4⟩ := HBox.out.only f3 id
      have HB2 := hide (HBox.out.only f3 id)
      obtain ⟨fb, fo, fc, hF8⟩ := f1.form8
      injection hF8 with hF8 hF9 hF10
      have HP := hide (play_box K2.out.held cd c7 _ _ (C6.out.only f3 fun _ _ => id) K2.out.tS)
      have hbx2 : Hid (wr.heap.size < w4.heap.size) := by
        have h1 := f3.size
        have h2 : (wr.alloc (.cells #[.int .i64 cd.kind, .int .i64 cd.file, .int .i64 cd.n, .slice BA Bn Bc, .slice KA Kn Kc] 51)).heap.size = wr.heap.size + 1 := by simp
        show _ < _
        omega
      subst hF8 hF9 hF10
      clear f1 f2 f3 f4 c7
      go_wp2_with fail
      refine HP.out.mono ?_
      rintro e w5 ⟨b', S', rfl, g1, g2, -⟩
      have K3 := hide (K2.out.step g1 g2)
      have HF2 := hide (HF1.out.only g2.only fun x hx => (HT1.out x hx).1)
      have HT2 : Hid (∀ x, T1 x → ¬ S' x ∧ x ≠ g0 ∧ x < w5.heap.size) := fun x hx => ⟨fun hs => (g2.foot x hs).elim (HT1.out x hx).1 fun hl => by have := (HT1.out x hx).2.2; omega, (HT1.out x hx).2.1, Nat.lt_of_lt_of_le (HT1.out x hx).2.2 g2.only.size⟩
      have HB3 := hide (HB2.out.only g2.only hbx.out.1)
      have hokd := hide K2.out.held.disk.1
      clear g1 g2 x0 x1 x2 x3 x4
      go_wp2_with fail
      refine (files_held K3.out.held).mono ?_
      rintro e w6 ⟨GA, Gn, Gc, T2, rfl, f1, f2, f3, f4⟩
      have K4 := hide (K3.out.grow f3)
      have HN := hide f1
      have HW2 := hide (HF2.out.only f3 fun _ _ => id)
      have HT4 : Hid ((∀ x, T1 x → x ≠ g0) ∧ (∀ x, T2 x → x ≠ g0)) := ⟨fun x hx => (HT2.out x hx).2.1, fun x hx e => by have h1 := (f2 x hx).1; have h2 := heap_lt K3.out.blk; omega⟩
      obtain ⟨x0, x1, x2, x3, x4⟩ := HB3.out.only f3 id
      obtain ⟨gb, go, gc', hG8⟩ := f1.form8
      injection hG8 with hG8 hG9 hG10
      subst hG8 hG9 hG10
      clear f1 f2 f3 f4 HT1 HT2 HF1 HF2 HB2 HB3 HP
      by_cases h6 : cd.kind = 6
      · have e6 : (d.play cd) = (d.crash cd.keep, 0) := by unfold DS.play; rw [if_neg (by omega), if_neg (by omega), if_neg (by omega), if_neg (by omega), if_neg (by omega), if_pos h6]
        rw [e6] at HN K4 ⊢
        rw [h6] at x0 ⊢
        have HSC := hide (fun i (hi : i < 8) => safe_crash hokd.out HS.out cd.keep hi)
        have hoff : Hid ((d.crash cd.keep).off = false) := rfl
        clear e6 h6
        generalize d.crash cd.keep = d' at *
        go_wp2_with fail
        go_loopw [53] (fun i wr2 => ∃ j : Nat, j ≤ 8 ∧ i = .int .i64 j ∧ Only (fun x => x = g0) w6 wr2 ∧ wr2.heap[g0]? = some (.cells (safeArr (mix d'.len s j)) 59 (0, 0))) (fun i _ => 8 - (intOf i).toNat)
        case atStart => exact ⟨0, by omega, rfl, Only.refl _ _, by rw [mix_zero]; exact K4.out.blk⟩
        case round =>
          obtain ⟨j, hj, rfl, hO, hB⟩ := hrel
          by_cases hlt8 : j < 8
          · obtain ⟨E1, ec1, d1, d2, d3⟩ := (HW2.out.only hO fun x hx e => HT4.out.1 x hx e).file hlt8
            obtain ⟨E2, ec2, n1, n2, n3⟩ := (HN.out.only hO fun x hx e => HT4.out.2 x hx e).file hlt8
            obtain ⟨q1, q2, q3, q4⟩ := HSC.out j hlt8
            have hsc : wr.cell? ⟨g0, j, none⟩ = some (.int .i64 (s j)) := by
              rw [cell_of_heap hB, safeArr_at _ hlt8]
              simp [mix]
            have hfr := frozen_of_heap hB j
            have hle : d'.len j ≤ ec1 := by omega
            have HE := hide (fun n => bytesEqual_any (n3.drewN n) ((rds_take_n d3 (show d'.len j ≤ (d.data j).length from q2)).drewN n))
            rw [q3, show decide (d'.data j = d'.data j) = true from decide_eq_true rfl] at HE
            have hk1 : decide ((d'.len j : Int) < (s j : Int)) = false := by simpa using q1
            have hk2 : decide ((d.len j : Int) < (d'.len j : Int)) = false := by simpa using q2
            have HO := hide hO
            have hnx : Hid (∀ q : Nat, ((wr.drewN q).setCell ⟨g0, j, none⟩ (.int .i64 (d'.len j))).heap[g0]? = some (.cells (safeArr (mix d'.len s (j + 1))) 59 (0, 0))) := fun q => by
              rw [heap_setCell_at (w := wr.drewN q) hB, safeArr_set _ hlt8, mix_succ]
            clear hO hB d3 n3 q3
            go_wp2
            go_quiet ((go_at_call 20; exact quiet_at (HE.out _)))
            go_wp2
            go_roundw
            case rel => exact ⟨j + 1, by omega, by go_num, (HO.out.drewN nq).setCell (p := ⟨g0, j, none⟩) (.inl rfl) _, hnx.out nq⟩
            case measure => simp [intOf]; omega
          · obtain rfl : j = 8 := by omega
            have K5 := hide (K4.out.store hO hB)
            have HS5 : Hid (SafeOk d' (mix d'.len s 8)) := fun i hi => by
              have h4 := (HSC.out i hi).2.2.2
              show mix d'.len s 8 i ≤ _
              unfold mix
              rw [if_pos hi, h4]
              exact Nat.le_refl _
            clear hO hB
            go_wp2
            go_roundw
            case rel => exact ⟨k + 1, _, _, _, _, by omega, by go_num, rfl, K5.out, HS5.out, fun _ => hoff.out⟩
            case measure => simp [intOf]; omega
      · have hkm : k ≠ m := fun e => h6 (hl6.out e)
        have hkm' : Hid (k + 1 = m + 1 → False) := fun e => hkm (by omega)
        obtain ⟨sp1, sp2⟩ := safe_play hokd.out HS.out cd h6
        have HS1 := hide sp1
        have HS2 := hide sp2
        have hq6 : (cd.kind == 6) = false := by simpa using h6
        clear sp1 sp2 hkm h6
        generalize (d.play cd).1 = d' at *
        obtain ⟨code, hcode⟩ : ∃ code, (d.play cd).2 = code := ⟨_, rfl⟩
        rw [hcode] at HS1 HS2 ⊢
        clear hcode
        by_cases hyes : code = 0 ∧ 2 ≤ cd.kind ∧ cd.kind ≤ 4
        · obtain ⟨j, hj, hj8, hsj⟩ := HS2.out hyes
          obtain ⟨rfl, hy2, hy4⟩ := hyes
          have HS5 := hide hsj
          rw [hj] at x1
          obtain ⟨E2, ec2, n1, n2, n3⟩ := HN.out.file hj8
          have hsc : w6.cell? ⟨g0, j, none⟩ = some (.int .i64 (s j)) := by
            rw [cell_of_heap K4.out.blk, safeArr_at _ hj8]
          have hfr := frozen_of_heap K4.out.blk j
          have hj' : (j : Int) < 8 := by omega
          have K5 : Hid (CrIn w (w6.setCell ⟨g0, j, none⟩ (.int .i64 (d'.len j))) b' d' S' g0 (upd s j (d'.len j)) (some ⟨gc, 0, none⟩) (m + 1) cs' (fun x => x < w.heap.size ∨ x = gc)) :=
            K4.out.store ((Only.refl (fun x => x = g0) w6).setCell (p := ⟨g0, j, none⟩) (.inl rfl) _) (by rw [heap_setCell_at K4.out.blk, safeArr_set _ hj8])
          clear hj hsj n3
          go_wp2
          go_region
          all_goals
            go_wp2
            go_roundw
            case rel => exact ⟨k + 1, _, _, _, _, by omega, by go_num, rfl, by first | exact K5.out | exact K5.out.grow (Only.refl _ _).drew, HS5.out, fun e => (hkm'.out e).elim⟩
            case measure => simp [intOf]; omega
        · have HS5 := hide (HS1.out hyes)
          have hrest : code ≠ 0 ∨ (code = 0 ∧ cd.kind < 2) ∨ (code = 0 ∧ ¬ cd.kind < 2 ∧ 4 < cd.kind) := by omega
          clear hyes
          rcases hrest with h | ⟨rfl, h⟩ | ⟨rfl, h, h'⟩
          · have hq : (code == 0) = false := by simpa using h
            go_wp2
            go_roundw
            case rel => exact ⟨k + 1, _, _, _, _, by omega, by go_num, rfl, K4.out, HS5.out, fun e => (hkm'.out e).elim⟩
            case measure => simp [intOf]; omega
          · go_wp2
            go_roundw
            case rel => exact ⟨k + 1, _, _, _, _, by omega, by go_num, rfl, K4.out, HS5.out, fun e => (hkm'.out e).elim⟩
            case measure => simp [intOf]; omega
          · have h2 : 2 ≤ cd.kind := by omega
            go_wp2
            go_roundw
            case rel => exact ⟨k + 1, _, _, _, _, by omega, by go_num, rfl, K4.out, HS5.out, fun e => (hkm'.out e).elim⟩
            case measure => simp [intOf]; omega
    · obtain rfl : k = m + 1 := by omega
      have HK := hide hK
      have hoff := hFin rfl
      clear hK hk hlt hFin hSafe
      go_wp2_with (go_at_call 17; refine (begun22_any _).mono ?_; rintro e w2 ⟨rfl, h1⟩; have O1 := hide h1; clear h1)
      refine (off_held (HK.out.grow O1.out).held).mono ?_
      rintro e w5 ⟨rfl, rfl⟩
      rw [hoff]
      go_wp2
      go_ret
      exact ⟨rfl, HK.out.only.trans' O1.out⟩

end Go.Proofs.Ytldhpbmcpmebaaa
