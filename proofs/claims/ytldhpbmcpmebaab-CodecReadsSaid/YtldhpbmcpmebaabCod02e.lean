/- checkRow, AppendValue, AppendRow, walked. -/
import Derived.Test.YtldhpbmcpmebaabCod02d
set_option linter.unusedVariables false
set_option linter.unusedSimpArgs false
namespace Go.Proofs.Ytldhpbmcpmebaab.Cd
open Go.RowKit

def vd0 : VD := ⟨0, 0, ⟨#[]⟩⟩
/-- The value reads as the row vs, within the blocks T. -/
structure RdRow (w : World) (A : Option Addr) (n : Nat) (vs : List VD) (T : Nat → Prop) : Prop where
  len : n = vs.length
  at_ : ∀ i, i < vs.length → ∃ b o, A = some ⟨b, o, none⟩ ∧ T b ∧ w.cell? ⟨b, o + i * 3, none⟩ = some (.int .i64 (vs.getD i vd0).kind) ∧ w.cell? ⟨b, o + i * 3 + 1, none⟩ = some (.int .i64 (vs.getD i vd0).n) ∧ w.cell? ⟨b, o + i * 3 + 2, none⟩ = some (.string (vs.getD i vd0).s)
  fits : ∀ i, i < vs.length → (vs.getD i vd0).Fits
theorem RdRow.only {S T : Nat → Prop} {w w' : World} {A : Option Addr} {n : Nat} {vs : List VD} (h : RdRow w A n vs T) (ho : Only S w w') (hd : ∀ k, T k → ¬ S k) : RdRow w' A n vs T := by
  refine ⟨h.len, fun i hi => ?_, h.fits⟩
  obtain ⟨b, o, hA, hT, h1, h2, h3⟩ := h.at_ i hi
  exact ⟨b, o, hA, hT, ho.cell h1 (hd b hT), ho.cell h2 (hd b hT), ho.cell h3 (hd b hT)⟩
def rowCode (vs : List VD) : Int := if 12 < vs.length then 2 else if vs.all VD.valid then 0 else 10
def encRow (vs : List VD) : List UInt8 := leb vs.length ++ vs.flatMap enc

theorem all_take_succ (vs : List VD) {k : Nat} (hk : k < vs.length) : (vs.take (k + 1)).all VD.valid = ((vs.take k).all VD.valid && (vs.getD k vd0).valid) := by
  rw [List.take_succ_eq_append_getElem hk, List.all_append, List.getD_eq_getElem?_getD, List.getElem?_eq_getElem hk]
  simp
theorem all_getD {vs : List VD} (h : vs.all VD.valid = true) {k : Nat} (hk : k < vs.length) : (vs.getD k vd0).valid = true := by
  rw [List.getD_eq_getElem?_getD, List.getElem?_eq_getElem hk]
  exact List.all_eq_true.1 h _ (List.getElem_mem hk)

set_option maxRecDepth 100000 in
set_option maxHeartbeats 1000000 in
theorem checkRow_any {w : World} (A : Option Addr) (n cap : Nat) (vs : List VD) {T : Nat → Prop} (h : RdRow w A n vs T) (hn : n ≤ 9223372036854775807) :
    Calls Try.prog 65 #[.slice A n cap] w fun e w' => e = .returned (.int .i64 (rowCode vs)) ∧ Only (fun _ => False) w w' := by
  have H := hide h
  have hl := h.len
  by_cases h12 : 12 < n
  · have e : rowCode vs = 2 := by unfold rowCode; rw [if_pos (by omega)]
    rw [e]
    clear e h hl
    go_enter Try.func65, Try.ntmps65
    go_wp2
    go_ret
    exact ⟨rfl, Only.refl _ _⟩
  · have HE : Hid (rowCode vs = if vs.all VD.valid then 0 else 10) := by show _ = _; unfold rowCode; rw [if_neg (by omega)]
    have HL := hide hl
    clear h hl
    go_enter Try.func65, Try.ntmps65
    go_wp2
    go_loopw [10] (fun i wr => ∃ k : Nat, k ≤ n ∧ i = .int .i64 k ∧ (vs.take k).all VD.valid = true ∧ Only (fun _ => False) w wr) (fun i _ => n - (intOf i).toNat)
    case atStart => exact ⟨0, by omega, rfl, rfl, Only.refl _ _⟩
    case round =>
      obtain ⟨k, hk, rfl, hv, hO⟩ := hrel
      by_cases hlt : k < n
      · have hk' : k < vs.length := by rw [← HL.out]; exact hlt
        obtain ⟨b, o, rfl, hT, c1, c2, c3⟩ := (H.out.only hO fun _ _ => id).at_ k hk'
        have HA := hide (all_take_succ vs hk')
        have HB := hide (fun (h : vs.all VD.valid = true) => all_getD h hk')
        obtain ⟨v, hvd⟩ : ∃ v, vs.getD k vd0 = v := ⟨_, rfl⟩
        rw [hvd] at c1 c2 c3 HA HB
        have HO := hide hO
        have HV := hide hv
        clear hO hv hvd hT
        have HC := hide (fun w2 => valid_any w2 v)
        cases hvv : v.valid with
        | true =>
          rw [hvv] at HC HA
          go_wp2_with fail
          refine (HC.out _).mono ?_
          rintro e w2 ⟨rfl, h2⟩
          have O2 : Hid (Only (fun _ => False) w w2) := by rw [h2]; exact (HO.out.alloc _).alloc _
          clear h2
          go_wp2
          go_roundw
          case rel => exact ⟨k + 1, by omega, by go_num, by rw [HA.out, HV.out]; rfl, O2.out⟩
          case measure => simp [intOf]; omega
        | false =>
          have hne : Hid ((if vs.all VD.valid then (0 : Int) else 10) = 10) := by
            show _ = _
            rw [if_neg]
            intro h
            have := HB.out h
            rw [hvv] at this
            cases this
          rw [hvv] at HC
          go_wp2_with fail
          refine (HC.out _).mono ?_
          rintro e w2 ⟨rfl, h2⟩
          have O2 : Hid (Only (fun _ => False) w w2) := by rw [h2]; exact (HO.out.alloc _).alloc _
          clear h2
          go_wp2
          go_ret
          exact ⟨by rw [HE.out, hne.out]; rfl, O2.out⟩
      · obtain rfl : k = n := by omega
        have HV := hide hv
        have HO := hide hO
        clear hv hO
        go_wp2
        go_ret
        refine ⟨?_, HO.out⟩
        have := HV.out
        rw [HL.out, List.take_length] at this
        rw [HE.out, if_pos this]
        rfl

/-- A function that hands back bytes of its own, and a code. -/
def BytesCode (w : World) (l : List UInt8) (c : Int) (e : Ending) (w' : World) : Prop := ∃ v, e = .returned (.tuple #[v, .int .i64 c]) ∧ Fresh w w' v l

theorem flat_take_succ (vs : List VD) {k : Nat} (hk : k < vs.length) : (vs.take (k + 1)).flatMap enc = (vs.take k).flatMap enc ++ enc (vs.getD k vd0) := by
  rw [List.take_succ_eq_append_getElem hk, List.flatMap_append, List.getD_eq_getElem?_getD, List.getElem?_eq_getElem hk]
  simp
theorem flat_len {vs : List VD} (hv : vs.all VD.valid = true) (hf : ∀ i, i < vs.length → (vs.getD i vd0).Fits) : ∀ k, k ≤ vs.length → ((vs.take k).flatMap enc).length ≤ k * 75 := by
  intro k
  induction k with
  | zero => intro _; simp
  | succ k ih =>
    intro hk
    rw [flat_take_succ vs (by omega), List.length_append]
    have h1 := ih (by omega)
    have h2 := enc_len (all_getD hv (show k < vs.length by omega)) (hf k (by omega))
    omega

set_option maxRecDepth 100000 in
set_option maxHeartbeats 1000000 in
theorem appendRow_any {w : World} (x : Value) (l : List UInt8) (hx : Rds w x (bytesV l)) (hl : l.length ≤ 100000) (A : Option Addr) (n cap : Nat) (vs : List VD) {T : Nat → Prop} (h : RdRow w A n vs T) (hT : ∀ k, T k → k < w.heap.size) (hn : n ≤ 9223372036854775807) :
    Calls Try.prog 22 #[x, .slice A n cap] w (BytesCode w (if rowCode vs = 0 then l ++ encRow vs else []) (rowCode vs)) := by
  have HC := hide (checkRow_any A n cap vs h hn)
  have HX := hide hx
  have H := hide h
  have HTT := hide hT
  have HL := hide h.len
  have hll := hide hl
  obtain ⟨XA, xn, xc, rfl⟩ := rds_form hx
  by_cases hc : rowCode vs = 0
  · rw [if_pos hc, hc]
    rw [hc] at HC
    have h12 : n ≤ 12 := by
      unfold rowCode at hc
      have := h.len
      split at hc
      · cases hc
      · omega
    have hall : Hid (vs.all VD.valid = true) := by
      unfold rowCode at hc
      split at hc
      · cases hc
      · split at hc
        · assumption
        · cases hc
    clear hx h hT hl hc hn
    go_enter Try.func22, Try.ntmps22
    go_wp2_with fail
    refine HC.out.mono ?_
    rintro e w1 ⟨rfl, hO⟩
    have O1 := hide hO
    have HG := hide (grown_any _ l (HX.out.only hO fun _ _ => id) 16 (by have := hll.out; omega))
    clear hO
    go_wp2_with fail
    refine HG.out.mono ?_
    rintro e w2 ⟨v, rfl, F⟩
    obtain ⟨A1, n1, c1, rfl⟩ := own_form' F.own
    have F1 := hide F
    have HU := hide (uintTo_any F n (by omega) (by have := hll.out; omega))
    clear F
    go_wp2_with fail
    refine HU.out.mono ?_
    rintro e w3 ⟨v, rfl, F, -⟩
    have F2 : Hid (Fresh w w3 v (l ++ leb n)) := ⟨F.own, O1.out.trans' F.only, fun k hk => Nat.le_trans O1.out.size (F.new k hk)⟩
    clear F HU HG F1
    go_wp2_with fail
    go_loopw [7, 23] (fun v i wr => ∃ k : Nat, k ≤ n ∧ i = .int .i64 k ∧ Fresh w wr v (l ++ leb n ++ (vs.take k).flatMap enc)) (fun _ i _ => n - (intOf i).toNat)
    case atStart => exact ⟨0, by omega, rfl, by simpa using F2.out⟩
    case round =>
      obtain ⟨k, hk, rfl, hF⟩ := hrel
      obtain ⟨A3, n3, c3', rfl⟩ := own_form' hF.own
      by_cases hlt : k < n
      · have hk' : k < vs.length := by rw [← HL.out]; exact hlt
        obtain ⟨b, o, rfl, hT, c1, c2, c3⟩ := (H.out.only hF.only fun _ _ => id).at_ k hk'
        have HA := hide (flat_take_succ vs hk')
        have hv := all_getD hall.out hk'
        have hfit := H.out.fits k hk'
        have hlen := flat_len hall.out H.out.fits k (by omega)
        obtain ⟨v, hvd⟩ : ∃ v, vs.getD k vd0 = v := ⟨_, rfl⟩
        rw [hvd] at c1 c2 c3 HA hv hfit
        have HV := hide (fun w2 (ho : Only (fun _ => False) wr w2) => valueTo_any (hF.grow ho) (by
          have h1 := hll.out
          have h2 := leb_len10 (show n < 18446744073709551616 by omega)
          rw [List.length_append, List.length_append]
          omega) v hv hfit)
        clear hF hvd hv hfit hlen hT
        go_wp2_with fail
        refine (HV.out _ ((Only.refl _ _).alloc _)).mono ?_
        rintro e w4 ⟨v', rfl, F, -⟩
        have F4 := hide F
        clear F
        go_wp2
        go_roundw
        case rel => exact ⟨k + 1, by omega, by go_num, by rw [HA.out, ← List.append_assoc]; exact F4.out⟩
        case measure => simp [intOf]; omega
      · obtain rfl : k = n := by omega
        have F4 := hide hF
        clear hF
        go_wp2
        go_ret2
        refine ⟨_, rfl, ?_⟩
        have := F4.out
        rw [show vs.take k = vs from by rw [HL.out, List.take_length], List.append_assoc] at this
        unfold encRow
        rw [← HL.out]
        exact this
  · rw [if_neg hc]
    generalize rowCode vs = c at *
    clear hx h hT hl
    go_enter Try.func22, Try.ntmps22
    go_wp2_with fail
    refine HC.out.mono ?_
    rintro e w1 ⟨rfl, hO⟩
    have O1 := hide hO
    clear hO
    go_wp2
    go_ret2
    exact ⟨_, rfl, (Fresh.nil w).grow O1.out⟩

end Go.Proofs.Ytldhpbmcpmebaab.Cd
