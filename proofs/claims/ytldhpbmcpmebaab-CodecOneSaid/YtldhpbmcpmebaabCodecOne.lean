/- CodecOne, walked. -/
import Derived.Test.YtldhpbmcpmebaabCodecValues
import Derived.Test.YtldhpbmcpmebaabCodecCuts
set_option linter.unusedVariables false
set_option linter.unusedSimpArgs false
namespace Go.Proofs.Ytldhpbmcpmebaab.Cd
open Go.RowKit

set_option maxRecDepth 100000 in
theorem bool_any {w : World} {g : Nat} {R : Nat → Prop} (h : CaseIn w g R) (m : Int) (hm : 0 < m) (hm2 : m ≤ 1000000) :
    Calls Try.prog 33 #[.pointer (some ⟨g, 0, none⟩), .int .i64 m] w (CaseEnd w g R fun v => ∃ b, v = .bool b) := by
  have HI := hide (int_any h m hm hm2)
  clear h
  go_enter Try.func33, Try.ntmps33
  go_wp2_with fail
  refine HI.out.mono ?_
  rintro e w2 ⟨r, rfl, h0, h1, hC, hO⟩
  have C := hide hC
  have O := hide hO
  clear hC hO HI
  go_wp2
  go_ret
  exact ⟨_, rfl, ⟨_, rfl⟩, C.out, O.out⟩

/-- Behind a store of one byte into bytes of one's own. -/
theorem Fresh.poke {w1 w2 : World} {g n c : Nat} {l : List UInt8} (h : Fresh w1 w2 (.slice (some ⟨g, 0, none⟩) n c) l) {i : Nat} (hi : i < l.length) (x : UInt8) : Fresh w1 (w2.setCell ⟨g, i, none⟩ (.int .u8 (x.toNat : Int))) (.slice (some ⟨g, 0, none⟩) n c) (l.set i x) := by
  have hg := h.new g rfl
  refine ⟨?_, h.only.setCell (p := ⟨g, i, none⟩) (.inr hg) _, h.new⟩
  obtain ⟨h1, h2⟩ := h.own
  rw [List.length_set]
  refine ⟨by rw [bytesV_length, List.length_set]; omega, ?_⟩
  rcases h2 with ⟨h2, _⟩ | ⟨g', cap, cur, hv, hb, hh, hn, hc, hs, ht⟩
  · cases h2
  · injection hv with e1 e2 e3
    injection e1 with e1
    injection e1 with e1 _ _
    subst e1 e2 e3
    refine .inr ⟨g, c, cur.setIfInBounds i (.int .u8 (x.toNat : Int)), rfl, hb, heap_setCell_at hh i _, hn, hc, by simp; omega, ?_⟩
    rw [Array.toList_setIfInBounds, List.take_set, ht]
    simp [bytesV, List.map_set]
theorem fresh_block {w1 w2 : World} {A : Option Addr} {n c : Nat} {l : List UInt8} (h : Fresh w1 w2 (.slice A n c) l) (hl : 0 < l.length) : ∃ g, A = some ⟨g, 0, none⟩ ∧ n = l.length ∧ ∀ i (hi : i < l.length), w2.cell? ⟨g, i, none⟩ = some (.int .u8 (l[i].toNat : Int)) ∧ w2.frozen? ⟨g, i, none⟩ = false := by
  have hn := own_n h.own
  rcases h.own.2 with ⟨h2, h3⟩ | ⟨g, cap, cur, hv, hb, hh, hnc, hc, hs, ht⟩
  · omega
  · injection hv with e1 e2 e3
    subst e1
    refine ⟨g, rfl, hn, fun i hi => ⟨?_, frozen_of_heap hh i⟩⟩
    have := h.own.cells (g := g) rfl i _ (bytesV_get l i hi)
    rw [addr_eta _ rfl] at this
    simpa using this

theorem one_row {l : List UInt8} {vs : List VD} {next : Nat} (h : readRow l 0 = (vs, next, 0)) : vs.length ≤ 12 ∧ AllOk vs ∧ next ≤ l.length ∧ encRow vs = l.take next := by
  unfold readRow at h
  rw [if_neg (by omega)] at h
  obtain ⟨h1, h2, h3, h4, h5⟩ := rdRow_inv h
  refine ⟨h1, h2, h4, ?_⟩
  simp only [Int.toNat_zero, List.drop_zero, Nat.zero_add] at h3 h5
  rw [h5, h3, List.take_left]
theorem readRow_zero (l : List UInt8) (k : Int) (h : (readRow l k).2.2 ≠ 0) : (readRow l k).1 = [] ∧ (readRow l k).2.1 = 0 := by
  unfold readRow at h ⊢
  split
  · exact ⟨rfl, rfl⟩
  · rename_i h1
    rw [if_neg h1] at h
    unfold rdRow at h ⊢
    split
    · rename_i h2
      rw [if_pos h2] at h
      split
      · exact ⟨rfl, rfl⟩
      · rename_i h3
        rw [if_neg h3] at h
        exact rdCells_zero _ _ _ h
    · exact ⟨rfl, rfl⟩

set_option maxRecDepth 100000 in
set_option maxHeartbeats 4000000 in
theorem codecOne_any {w : World} (A B : Option Addr) (n cap dn dcap : Nat) (l d : List UInt8) (hr : Rds w (.slice A n cap) (bytesV l)) (hd : Rds w (.slice B dn dcap) (bytesV d)) (at_ : Nat) (hat : at_ < 256) (by_ : Nat) (hby : by_ < 256) :
    Calls Try.prog 5 #[.slice A n cap, .slice B dn dcap, .int .u8 at_, .int .u8 by_] w fun e w' => e = .returned (.bool true) ∧ Only (fun _ => False) w w' := by
  have HNew := hide (new_any A n cap l hr 90 (by omega))
  have HD := hide (fun (w2 : World) (ho : Only (fun _ => False) w w2) => part_any B dn dcap d (hd.only ho fun _ _ => id))
  clear hr hd
  go_enter Try.func5, Try.ntmps5
  go_wp2_with fail
  refine HNew.out.mono ?_
  rintro e w1 ⟨g, rfl, hg, hC, hO⟩
  have C1 := hide hC
  have O1 := hide hO
  have hgw := hide hg
  clear hC hO hg
  go_wp2_with fail
  refine (int_any C1.out 5 (by omega) (by omega)).mono ?_
  rintro e w2 ⟨r, rfl, h0, h3, hC, hO⟩
  have C2 := hide hC
  have O2 : Hid (Only (fun _ => False) w w2) := O1.out.trans hO fun x hx e => by have := hgw.out; omega
  obtain ⟨r, rfl⟩ := Int.eq_ofNat_of_zero_le h0
  have hr1 : Hid (r < 5) := by show _ < _; omega
  clear hC hO h0
  go_wp2_with fail
  refine (cells_any C2.out r (by have := hr1.out; omega)).mono ?_
  rintro e w3 ⟨v, vs, rfl, hl, hv, hF, hC⟩
  obtain ⟨A3, m3, c3, rfl⟩ := own_form' hF.own
  obtain ⟨rfl, hrd⟩ := hF.rd hv
  have C3 := hide hC
  have O3 : Hid (Only (fun _ => False) w w3) := O2.out.trans hF.only fun x hx e => by have := hgw.out; omega
  have hgl : Hid (g < w3.heap.size) := hC.lt
  have HA := hide (refAppendRow_any (w := w3) (.slice none 0 0) [] (rds_nil _) (by simp) _ _ c3 vs hrd (by have := hr1.out; omega))
  rw [rowCode_ok hv (by have := hr1.out; omega), if_pos rfl, List.nil_append] at HA
  have hlE : Hid ((encRow vs).length ≤ 2000) := by
    have h12 : vs.length ≤ 12 := by have := hr1.out; omega
    show _ ≤ _
    unfold encRow
    rw [List.length_append]
    have h1 := leb_len10 (show vs.length < 18446744073709551616 by omega)
    have h2 := flat_len (allOk_valid hv) (fun i hi => by rw [List.getD_eq_getElem?_getD, List.getElem?_eq_getElem hi]; exact (hv _ (List.getElem_mem hi)).2) vs.length (Nat.le_refl _)
    rw [List.take_length] at h2
    omega
  have hne : Hid (0 < (encRow vs).length) := List.length_pos_iff.2 (encRow_ne vs)
  obtain ⟨er, her⟩ : ∃ er, encRow vs = er := ⟨_, rfl⟩
  rw [her] at HA hlE hne
  clear hC hF hrd hv hl her
  go_wp2_with fail
  refine HA.out.mono ?_
  rintro e w4 ⟨v4, rfl, F⟩
  obtain ⟨A4, n4, c4, rfl⟩ := own_form' F.own
  have F4 := hide F
  have C4 := hide (C3.out.grow F.only)
  clear F
  go_wp2_with fail
  refine (bool_any C4.out 2 (by omega) (by omega)).mono ?_
  rintro e w5 ⟨_, rfl, ⟨b, rfl⟩, hC, hO⟩
  have O5 : Hid (Only (fun _ => False) w w5) := (O3.out.trans' F4.out.only).trans hO fun x hx e => by have := hgw.out; omega
  have F5 : Hid (Fresh w w5 (.slice A4 n4 c4) er) := ⟨hO.owns F4.out.own (fun k hk e => by have h1 := F4.out.new k hk; have h2 := hgl.out; omega), O5.out, fun k hk => Nat.le_trans O3.out.size (F4.out.new k hk)⟩
  clear hO hC
  cases b with
  | false =>
    have hpos := hne.out
    obtain ⟨g6, rfl, rfl, hcells⟩ := fresh_block F5.out hpos
    obtain ⟨M, hM⟩ : ∃ L, er.length = L := ⟨_, rfl⟩
    have hMH := hide hM
    have hM0 : 0 < M := by omega
    obtain ⟨i, hi⟩ : ∃ q, at_ % M = q := ⟨_, rfl⟩
    have hiM : i < M := by rw [← hi]; exact Nat.mod_lt _ hM0
    have hiI : (at_ : Int) % (M : Int) = i := by rw [← hi]; rfl
    obtain ⟨y0, y1⟩ := hcells i (by omega)
    obtain ⟨cb, hcb⟩ : ∃ c, (er[i]'(by omega)).toNat = c := ⟨_, rfl⟩
    have hcb256 : cb < 256 := by rw [← hcb]; exact (er[i]'(by omega)).toNat_lt
    rw [hcb] at y0
    have hx : bits .xor .u8 (cb : Int) (by_ : Int) = ((UInt8.ofNat (cb ^^^ by_)).toNat : Int) := by
      rw [u8_xor_nat cb by_ hcb256 hby, UInt8.toNat_ofNat']
      have : cb ^^^ by_ < 2 ^ 8 := Nat.xor_lt_two_pow hcb256 hby
      omega
    obtain ⟨xb, hxb⟩ : ∃ x, UInt8.ofNat (cb ^^^ by_) = x := ⟨_, rfl⟩
    rw [hxb] at hx
    have F7 : Hid (Fresh w (w5.setCell ⟨g6, i, none⟩ (.int .u8 (xb.toNat : Int))) (.slice (some ⟨g6, 0, none⟩) M c4) (er.set i xb)) := by have h := F5.out.poke (i := i) (by omega) xb; rw [hM] at h; exact h
    have hL7 : Hid ((er.set i xb).length ≤ 2000) := by show _ ≤ _; rw [List.length_set]; exact hlE.out
    obtain ⟨LL, hLL⟩ : ∃ L, er.set i xb = L := ⟨_, rfl⟩
    rw [hLL] at F7 hL7
    have hMI : ¬ (M : Int) = 0 := by omega
    have hMI0 : (0 : Int) < M := by omega
    have hiI0 : (0 : Int) ≤ (i : Int) := by omega
    have hiI1 : (i : Int) < M := by omega
    clear hM hi hcb hxb hLL hcells hpos
    simp only [hMH.out]
    go_wp2_with fail
    have HR := hide (Row_any _ LL 0 F7.out.rds (fun b hb => rds_lt F7.out.rds hb) (by have := hL7.out; omega))
    have HZ := hide (readRow_zero LL 0)
    have HONE := hide (fun vs next h => one_row (l := LL) (vs := vs) (next := next) h)
    obtain ⟨⟨us, nx, rc⟩, hq⟩ : ∃ r, readRow LL 0 = r := ⟨_, rfl⟩
    have HQ := hide hq
    rw [hq] at HR HZ
    simp only at HZ
    refine HR.out.mono ?_
    rintro e w8 ⟨v8, rfl, FR⟩
    obtain ⟨A8, n8, c8, rfl⟩ := own_form' FR.own
    simp only at FR
    obtain rfl := own_n FR.own
    have O8 := hide (F7.out.only.trans' FR.only)
    have FRh := hide FR
    clear FR hq HR
    by_cases hc : rc = 0
    · subst hc
      obtain ⟨i1, i2, i3, i4⟩ := HONE.out us nx HQ.out
      obtain ⟨_, hrd⟩ := FRh.out.rd i2
      have HA2 := hide (appendRow_any (w := w8) (.slice none 0 0) [] (rds_nil _) (by simp) _ _ c8 us hrd (fun k hk => FRh.out.lt hk) (by omega))
      rw [rowCode_ok i2 i1, if_pos rfl, List.nil_append, i4] at HA2
      have hnL : LL.length = M := (rds_n F7.out.rds).1.symm
      have hnx : nx ≤ M := by omega
      have hnxc : nx ≤ c4 := by have := (rds_n F7.out.rds).2; omega
      have RB := hide (rds_take_n (F7.out.rds.only FRh.out.only fun _ _ => id) i3)
      have hlen2 : Hid (us.length ≤ 12) := i1
      clear i1 i2 i3 i4 hrd HZ HONE HQ hnL
      go_wp2_with fail
      refine HA2.out.mono ?_
      rintro e w9 ⟨v9, rfl, F9⟩
      obtain ⟨A9, n9, c9, rfl⟩ := own_form' F9.own
      have F9h := hide F9
      have O9 := hide (O8.out.trans' F9.only)
      have RB9 := hide (RB.out.only F9.only fun _ _ => id)
      clear F9
      go_wp2_with fail
      refine (begun02_any _).mono ?_
      rintro e w10 ⟨rfl, hO⟩
      have O10 := hide (O9.out.trans' hO)
      have HS := hide (same_any (F9h.out.rds.only hO fun _ _ => id) (RB9.out.only hO fun _ _ => id))
      rw [decide_eq_true rfl] at HS
      clear hO
      go_wp2_with fail
      refine HS.out.mono ?_
      rintro e w11 ⟨rfl, rfl⟩
      go_wp2
      go_ret
      exact ⟨rfl, O10.out⟩
    · obtain ⟨rfl, rfl⟩ := HZ.out hc
      go_wp2_with fail
      refine (begun02_any _).mono ?_
      rintro e w10 ⟨rfl, hO⟩
      have O10 := hide (O8.out.trans' hO)
      clear hO
      go_wp2
      go_ret
      exact ⟨rfl, O10.out⟩
  | true =>
    go_wp2_with fail
    refine (HD.out w5 O5.out).mono ?_
    rintro e w6 ⟨k, rfl, hR, hk, rfl⟩
    have R6 := hide hR
    obtain ⟨q, hq⟩ : ∃ p, d.take 200 = p := ⟨_, rfl⟩
    have hq200 : Hid (q.length ≤ 2000) := by show _ ≤ _; rw [← hq, List.length_take]; omega
    rw [hq] at R6
    clear hR hk hq
    by_cases hq0 : q.length = 0
    · obtain rfl : q = [] := List.eq_nil_of_length_eq_zero hq0
      clear hq0
      go_wp2_with (at_builtin; refine wp_app rfl _ _ 22 rfl (.slice none 0 0) 0 [] rfl (World.ownsRow_nil _ _ _ _) _ rfl _ [] (R6.out.src Try.underlying22 (bytesV_one [])) (by simp) ?_; intro v7 w7 g1 g2 g3; have F6 := hide ((Fresh.nil w5).push g1 g2 g3); obtain ⟨A6, n6, c6, rfl⟩ := own_form' g1; obtain rfl : n6 = 0 := own_n g1; clear g1 g2 g3)
      have F7 : Hid (Fresh w w7 (.slice A6 0 c6) []) := ⟨F6.out.own, O5.out.trans' F6.out.only, fun k hk => Nat.le_trans O5.out.size (F6.out.new k hk)⟩
      obtain ⟨LL, hLL⟩ : ∃ L : List UInt8, L = [] := ⟨_, rfl⟩
      have hL7 : Hid (LL.length ≤ 2000) := by show _ ≤ _; rw [hLL]; simp
      rw [← hLL] at F7
      clear hLL
      have HR := hide (Row_any _ LL 0 F7.out.rds (fun b hb => rds_lt F7.out.rds hb) (by have := hL7.out; omega))
      have HZ := hide (readRow_zero LL 0)
      have HONE := hide (fun vs next h => one_row (l := LL) (vs := vs) (next := next) h)
      obtain ⟨⟨us, nx, rc⟩, hq⟩ : ∃ r, readRow LL 0 = r := ⟨_, rfl⟩
      have HQ := hide hq
      rw [hq] at HR HZ
      simp only at HZ
      refine HR.out.mono ?_
      rintro e w8 ⟨v8, rfl, FR⟩
      obtain ⟨A8, n8, c8, rfl⟩ := own_form' FR.own
      simp only at FR
      obtain rfl := own_n FR.own
      have O8 := hide (F7.out.only.trans' FR.only)
      have FRh := hide FR
      clear FR hq HR
      by_cases hc : rc = 0
      · subst hc
        obtain ⟨i1, i2, i3, i4⟩ := HONE.out us nx HQ.out
        obtain ⟨_, hrd⟩ := FRh.out.rd i2
        have HA2 := hide (appendRow_any (w := w8) (.slice none 0 0) [] (rds_nil _) (by simp) _ _ c8 us hrd (fun k hk => FRh.out.lt hk) (by omega))
        rw [rowCode_ok i2 i1, if_pos rfl, List.nil_append, i4] at HA2
        have hnL : LL.length = 0 := (rds_n F7.out.rds).1.symm
        have hnx : nx ≤ 0 := by omega
        have hnxc : nx ≤ c6 := by have := (rds_n F7.out.rds).2; omega
        have RB := hide (rds_take_n (F7.out.rds.only FRh.out.only fun _ _ => id) i3)
        have hlen2 : Hid (us.length ≤ 12) := i1
        obtain rfl : nx = 0 := by omega
        clear i1 i2 i3 i4 hrd HZ HONE HQ hnL
        go_wp2_with fail
        refine HA2.out.mono ?_
        rintro e w9 ⟨v9, rfl, F9⟩
        obtain ⟨A9, n9, c9, rfl⟩ := own_form' F9.own
        have F9h := hide F9
        have O9 := hide (O8.out.trans' F9.only)
        have RB9 := hide (RB.out.only F9.only fun _ _ => id)
        clear F9
        go_wp2_with fail
        refine (begun02_any _).mono ?_
        rintro e w10 ⟨rfl, hO⟩
        have O10 := hide (O9.out.trans' hO)
        have HS := hide (same_any (F9h.out.rds.only hO fun _ _ => id) (RB9.out.only hO fun _ _ => id))
        rw [decide_eq_true rfl] at HS
        clear hO
        go_wp2_with fail
        refine HS.out.mono ?_
        rintro e w11 ⟨rfl, rfl⟩
        go_wp2
        go_ret
        exact ⟨rfl, O10.out⟩
      · obtain ⟨rfl, rfl⟩ := HZ.out hc
        go_wp2_with fail
        refine (begun02_any _).mono ?_
        rintro e w10 ⟨rfl, hO⟩
        have O10 := hide (O8.out.trans' hO)
        clear hO
        go_wp2
        go_ret
        exact ⟨rfl, O10.out⟩
    · have hpos : 0 < q.length := by omega
      go_wp2_with (
        at_builtin
        refine wp_app rfl _ _ 22 rfl (.slice none 0 0) 0 [] rfl (World.ownsRow_nil _ _ _ _) _ rfl _ q (R6.out.src Try.underlying22 (bytesV_one q)) (by have := hq200.out; simp; unfold lim47; omega) ?_
        intro v7 w7 g1 g2 g3
        have F6a := hide ((Fresh.nil w5).push g1 g2 g3)
        obtain ⟨A6, n6, c6, rfl⟩ := own_form' g1
        have F6 : Hid (Fresh w w7 (.slice A6 n6 c6) q) := ⟨F6a.out.own, O5.out.trans' F6a.out.only, fun k hk => Nat.le_trans O5.out.size (F6a.out.new k hk)⟩
        clear g1 g2 g3 F6a
        obtain ⟨g6, rfl, rfl, hcells⟩ := fresh_block F6.out hpos
        obtain ⟨M, hM⟩ : ∃ L, q.length = L := ⟨_, rfl⟩
        have hMH := hide hM
        have hM0 : 0 < M := by omega
        obtain ⟨i, hi⟩ : ∃ q, at_ % M = q := ⟨_, rfl⟩
        have hiM : i < M := by rw [← hi]; exact Nat.mod_lt _ hM0
        have hiI : (at_ : Int) % (M : Int) = i := by rw [← hi]; rfl
        obtain ⟨y0, y1⟩ := hcells i (by omega)
        obtain ⟨cb, hcb⟩ : ∃ c, (q[i]'(by omega)).toNat = c := ⟨_, rfl⟩
        have hcb256 : cb < 256 := by rw [← hcb]; exact (q[i]'(by omega)).toNat_lt
        rw [hcb] at y0
        have hx : bits .xor .u8 (cb : Int) (by_ : Int) = ((UInt8.ofNat (cb ^^^ by_)).toNat : Int) := by
          rw [u8_xor_nat cb by_ hcb256 hby, UInt8.toNat_ofNat']
          have : cb ^^^ by_ < 2 ^ 8 := Nat.xor_lt_two_pow hcb256 hby
          omega
        obtain ⟨xb, hxb⟩ : ∃ x, UInt8.ofNat (cb ^^^ by_) = x := ⟨_, rfl⟩
        rw [hxb] at hx
        have F7 : Hid (Fresh w (w7.setCell ⟨g6, i, none⟩ (.int .u8 (xb.toNat : Int))) (.slice (some ⟨g6, 0, none⟩) M c6) (q.set i xb)) := by have h := F6.out.poke (i := i) (by omega) xb; rw [hM] at h; exact h
        have hL7 : Hid ((q.set i xb).length ≤ 2000) := by show _ ≤ _; rw [List.length_set]; exact hq200.out
        obtain ⟨LL, hLL⟩ : ∃ L, q.set i xb = L := ⟨_, rfl⟩
        rw [hLL] at F7 hL7
        have hMI : ¬ (M : Int) = 0 := by omega
        have hMI0 : (0 : Int) < M := by omega
        have hiI0 : (0 : Int) ≤ (i : Int) := by omega
        have hiI1 : (i : Int) < M := by omega
        clear hM hi hcb hxb hLL hcells hpos
        simp only [hMH.out])
      have HR := hide (Row_any _ LL 0 F7.out.rds (fun b hb => rds_lt F7.out.rds hb) (by have := hL7.out; omega))
      have HZ := hide (readRow_zero LL 0)
      have HONE := hide (fun vs next h => one_row (l := LL) (vs := vs) (next := next) h)
      obtain ⟨⟨us, nx, rc⟩, hq⟩ : ∃ r, readRow LL 0 = r := ⟨_, rfl⟩
      have HQ := hide hq
      rw [hq] at HR HZ
      simp only at HZ
      refine HR.out.mono ?_
      rintro e w8 ⟨v8, rfl, FR⟩
      obtain ⟨A8, n8, c8, rfl⟩ := own_form' FR.own
      simp only at FR
      obtain rfl := own_n FR.own
      have O8 := hide (F7.out.only.trans' FR.only)
      have FRh := hide FR
      clear FR hq HR
      by_cases hc : rc = 0
      · subst hc
        obtain ⟨i1, i2, i3, i4⟩ := HONE.out us nx HQ.out
        obtain ⟨_, hrd⟩ := FRh.out.rd i2
        have HA2 := hide (appendRow_any (w := w8) (.slice none 0 0) [] (rds_nil _) (by simp) _ _ c8 us hrd (fun k hk => FRh.out.lt hk) (by omega))
        rw [rowCode_ok i2 i1, if_pos rfl, List.nil_append, i4] at HA2
        have hnL : LL.length = M := (rds_n F7.out.rds).1.symm
        have hnx : nx ≤ M := by omega
        have hnxc : nx ≤ c6 := by have := (rds_n F7.out.rds).2; omega
        have RB := hide (rds_take_n (F7.out.rds.only FRh.out.only fun _ _ => id) i3)
        have hlen2 : Hid (us.length ≤ 12) := i1
        clear i1 i2 i3 i4 hrd HZ HONE HQ hnL
        go_wp2_with fail
        refine HA2.out.mono ?_
        rintro e w9 ⟨v9, rfl, F9⟩
        obtain ⟨A9, n9, c9, rfl⟩ := own_form' F9.own
        have F9h := hide F9
        have O9 := hide (O8.out.trans' F9.only)
        have RB9 := hide (RB.out.only F9.only fun _ _ => id)
        clear F9
        go_wp2_with fail
        refine (begun02_any _).mono ?_
        rintro e w10 ⟨rfl, hO⟩
        have O10 := hide (O9.out.trans' hO)
        have HS := hide (same_any (F9h.out.rds.only hO fun _ _ => id) (RB9.out.only hO fun _ _ => id))
        rw [decide_eq_true rfl] at HS
        clear hO
        go_wp2_with fail
        refine HS.out.mono ?_
        rintro e w11 ⟨rfl, rfl⟩
        go_wp2
        go_ret
        exact ⟨rfl, O10.out⟩
      · obtain ⟨rfl, rfl⟩ := HZ.out hc
        go_wp2_with fail
        refine (begun02_any _).mono ?_
        rintro e w10 ⟨rfl, hO⟩
        have O10 := hide (O8.out.trans' hO)
        clear hO
        go_wp2
        go_ret
        exact ⟨rfl, O10.out⟩

end Go.Proofs.Ytldhpbmcpmebaab.Cd
