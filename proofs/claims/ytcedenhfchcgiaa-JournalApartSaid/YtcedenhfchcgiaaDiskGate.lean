/- gate, for whatever three functions it is handed; then the five methods that go through it. -/
import Derived.Test.YtcedenhfchcgiaaDiskW3
set_option linter.unusedVariables false
set_option linter.unusedSimpArgs false
namespace Go.Proofs.Ytcedenhfchcgiaa
open Go.RowKit

def DS.gate (d : DS) (at_ : Int) (ec : Nat → Int) (doF tornF : DS → Nat → DS) : DS × Int :=
  if d.off then (d, 220) else if at_ < 0 ∨ 8 ≤ at_ then (d, 1) else
  if ec at_.toNat ≠ 0 then (d, ec at_.toNat) else
  if d.plan = 0 then (doF d at_.toNat, 0) else
  if d.plan = 1 then (tornF { d with plan := 0, off := true } at_.toNat, 220) else
  (doF { d with plan := d.plan - 1 } at_.toNat, 0)

def SameFiles (d1 d : DS) : Prop := d1.room = d.room ∧ d1.data = d.data ∧ d1.syn = d.syn

def GateEnd (w : World) (b : Nat) (S : Nat → Prop) (r : DS × Int) (e : Ending) (w' : World) : Prop :=
  e = .returned (.int .i64 r.2) ∧ ∃ S', DiskIn w' b r.1 S' ∧ Stp S w w' S'
def DoEnd (w : World) (b : Nat) (S : Nat → Prop) (d : DS) (e : Ending) (w' : World) : Prop :=
  e = .returned (.tuple #[]) ∧ ∃ S', DiskIn w' b d S' ∧ Stp S w w' S'

set_option maxHeartbeats 400000 in
theorem gate_any {w : World} {b : Nat} {d : DS} {S : Nat → Prop} (h : DiskIn w b d S) (at_ : Int) (F1 F2 F3 : FuncId) (c1 c2 c3 : Array Value) (ec : Nat → Int) (doF tornF : DS → Nat → DS)
    (hF1 : ∀ args w, (callFunc F1 args).run Try.prog w = .ok (.enter F1 args) w) (hF2 : ∀ args w, (callFunc F2 args).run Try.prog w = .ok (.enter F2 args) w) (hF3 : ∀ args w, (callFunc F3 args).run Try.prog w = .ok (.enter F3 args) w)
    (hfit : ∀ i, i < 8 → Calls Try.prog F1 (#[.pointer (some ⟨b, 1 + i * 2, none⟩)] ++ c1) w fun e w' => e = .returned (.int .i64 (ec i)) ∧ ∃ q, w' = w.drewN q)
    (hdo : ∀ i, i < 8 → ec i = 0 → ∀ w1 d1, DiskIn w1 b d1 S → Only S w w1 → SameFiles d1 d → Calls Try.prog F2 (#[.pointer (some ⟨b, 1 + i * 2, none⟩)] ++ c2) w1 (DoEnd w1 b S (doF d1 i)))
    (htorn : ∀ i, i < 8 → ec i = 0 → ∀ w1 d1, DiskIn w1 b d1 S → Only S w w1 → SameFiles d1 d → Calls Try.prog F3 (#[.pointer (some ⟨b, 1 + i * 2, none⟩)] ++ c3) w1 (DoEnd w1 b S (tornF d1 i))) :
    Calls Try.prog 30 #[.pointer (some ⟨b, 0, none⟩), .int .i64 at_, .func (.func F1) #[] c1, .func (.func F2) #[] c2, .func (.func F3) #[] c3] w (GateEnd w b S (d.gate at_ ec doF tornF)) := by
  obtain ⟨hok, V, hA, hS⟩ := h
  have HI : Hid (DiskIn w b d S) := ⟨hok, V, hA, hS⟩
  have hc := hA.cell_off
  have hp := hA.cell_plan
  have hf1 := hA.frozen 17
  have hf2 := hA.frozen 18
  have hpl := hok.plan
  have hSb : S b := hS b (.inl rfl)
  have HS := hide hSb
  have HF := hide hfit
  have HD := hide hdo
  have HT := hide htorn
  have HV := hide hA
  have HP := hide hpl
  have hok' := hide hok
  have hS' := hide hS
  clear hfit hdo htorn hA hS hok hSb hpl
  by_cases ho : d.off = true
  · have e1 : d.gate at_ ec doF tornF = (d, 220) := by unfold DS.gate; rw [if_pos ho]
    rw [e1]
    rw [ho] at hc
    clear e1 ho
    go_enter Try.func30, Try.ntmps30
    go_wp2
    go_ret
    exact ⟨rfl, S, HI, Stp.refl _ _⟩
  have ho' : d.off = false := by simpa using ho
  rw [ho'] at hc
  by_cases h1 : at_ < 0
  · have e1 : d.gate at_ ec doF tornF = (d, 1) := by unfold DS.gate; rw [if_neg ho, if_pos (.inl h1)]
    rw [e1]
    clear e1 ho ho'
    go_enter Try.func30, Try.ntmps30
    go_wp2
    go_ret
    exact ⟨rfl, S, HI, Stp.refl _ _⟩
  by_cases h2 : 8 ≤ at_
  · have e1 : d.gate at_ ec doF tornF = (d, 1) := by unfold DS.gate; rw [if_neg ho, if_pos (.inr h2)]
    rw [e1]
    clear e1 ho ho'
    go_enter Try.func30, Try.ntmps30
    go_wp2
    go_ret
    exact ⟨rfl, S, HI, Stp.refl _ _⟩
  obtain ⟨i, rfl⟩ := Int.eq_ofNat_of_zero_le (show 0 ≤ at_ by omega)
  have hi : i < 8 := by omega
  by_cases h3 : ec i = 0
  · have HC := hide (HF.out i hi)
    have HDI := hide (HD.out i hi h3)
    have HTI := hide (HT.out i hi h3)
    have hplan := HP.out
    rw [h3] at HC
    have HE : Hid (∀ (w1 w' : World) (d' : DS) (c : Int) (e : Ending), Only S w w1 → DoEnd w1 b S d' e w' → e = .returned (.tuple #[]) ∧ GateEnd w b S (d', c) (.returned (.int .i64 c)) w') := fun w1 w' d' c e ho ⟨he, S', hd, hs⟩ => ⟨he, rfl, S', hd, (Stp.mk ho fun _ h => .inl h : Stp S w w1 S).trans hs⟩
    have HX : Hid (DiskAt w b d V ∧ d.Ok ∧ ∀ k, dfoot b V k → S k) := ⟨HV.out, hok', hS'⟩
    by_cases h4 : d.plan = 0
    · have e1 : d.gate i ec doF tornF = (doF d i, 0) := by unfold DS.gate; rw [if_neg ho, if_neg (by omega), if_neg (by simpa using h3), if_pos h4]; simp
      have HO : Hid (∀ q, DiskIn (w.drewN q) b d S ∧ Only S w (w.drewN q)) := fun q => ⟨⟨HX.out.2.1, V, HX.out.1.drewN q, HX.out.2.2⟩, (Only.refl S w).drewN q⟩
      rw [e1]
      rw [h4] at hp
      clear e1 ho ho' h3 h4 hplan
      go_enter Try.func30, Try.ntmps30
      go_wp2_with (first | ((with_reducible refine HC.out.mono ?_); rintro e w' ⟨rfl, q, rfl⟩) | (refine (HDI.out _ d (HO.out _).1 (HO.out _).2 ⟨rfl, rfl, rfl⟩).mono ?_; rintro e w' he; obtain ⟨rfl, hg⟩ := HE.out _ _ _ 0 _ (HO.out _).2 he; have HG := hide hg; clear hg he))
      go_ret
      exact HG.out
    · by_cases h5 : d.plan = 1
      · have e1 : d.gate i ec doF tornF = (tornF { d with plan := 0, off := true } i, 220) := by unfold DS.gate; rw [if_neg ho, if_neg (by omega), if_neg (by simpa using h3), if_neg h4, if_pos h5]; simp
        have HO : Hid (∀ q, DiskIn (((w.setCell ⟨b, 17, none⟩ (.int .i64 0)).setCell ⟨b, 18, none⟩ (.bool true)).drewN q) b { d with plan := 0, off := true } S ∧ Only S w (((w.setCell ⟨b, 17, none⟩ (.int .i64 0)).setCell ⟨b, 18, none⟩ (.bool true)).drewN q)) := fun q =>
          ⟨⟨⟨HX.out.2.1.room, HX.out.2.1.used, HX.out.2.1.syn, Nat.zero_le _⟩, V, ((HX.out.1.set_plan 0).set_off true).drewN q, HX.out.2.2⟩, (((Only.refl S w).setCell (.inl HS.out) _).setCell (.inl HS.out) _).drewN q⟩
        rw [e1]
        rw [h5] at hp
        clear e1 ho ho' h3 h4 h5 hplan
        go_enter Try.func30, Try.ntmps30
        go_wp2_with (first | ((with_reducible refine HC.out.mono ?_); rintro e w' ⟨rfl, q, rfl⟩) | (refine (HTI.out _ _ (HO.out _).1 (HO.out _).2 ⟨rfl, rfl, rfl⟩).mono ?_; rintro e w' he; obtain ⟨rfl, hg⟩ := HE.out _ _ _ 220 _ (HO.out _).2 he; have HG := hide hg; clear hg he))
        go_ret
        exact HG.out
      · obtain ⟨p, hpe⟩ : ∃ p, d.plan = p + 2 := ⟨d.plan - 2, by omega⟩
        have e1 : d.gate i ec doF tornF = (doF { d with plan := p + 1 } i, 0) := by unfold DS.gate; rw [if_neg ho, if_neg (by omega), if_neg (by simpa using h3), if_neg h4, if_neg h5, hpe]; simp
        have HO : Hid (∀ q (m : Int), m = ((p + 1 : Nat) : Int) → DiskIn ((w.setCell ⟨b, 17, none⟩ (.int .i64 m)).drewN q) b { d with plan := p + 1 } S ∧ Only S w ((w.setCell ⟨b, 17, none⟩ (.int .i64 m)).drewN q)) := fun q m hm =>
          ⟨⟨⟨HX.out.2.1.room, HX.out.2.1.used, HX.out.2.1.syn, by show p + 1 ≤ _; omega⟩, V, (set_plan' HX.out.1 m hm).drewN q, HX.out.2.2⟩, ((Only.refl S w).setCell (.inl HS.out) _).drewN q⟩
        rw [e1]
        rw [hpe] at hp hplan
        clear e1 ho ho' h3 h4 h5 hpe
        go_enter Try.func30, Try.ntmps30
        go_wp2_with (first | ((with_reducible refine HC.out.mono ?_); rintro e w' ⟨rfl, q, rfl⟩) | (refine (HDI.out _ _ (HO.out _ _ (by omega)).1 (HO.out _ _ (by omega)).2 ⟨rfl, rfl, rfl⟩).mono ?_; rintro e w' he; obtain ⟨rfl, hg⟩ := HE.out _ _ _ 0 _ (HO.out _ _ (by omega)).2 he; have HG := hide hg; clear hg he))
        go_ret
        exact HG.out
  · have e1 : d.gate i ec doF tornF = (d, ec i) := by unfold DS.gate; rw [if_neg ho, if_neg (by omega), if_pos (by simpa using h3)]; simp
    rw [e1]
    have HC := hide (HF.out i hi)
    have HQ : Hid (∀ q, GateEnd w b S (d, ec i) (.returned (.int .i64 (ec i))) (w.drewN q)) := fun q => by
      obtain ⟨hok, V, hA, hS⟩ := HI.out
      exact ⟨rfl, S, ⟨hok, V, hA.drewN q, hS⟩, (Stp.refl S w).onlyR ((Only.refl _ w).drewN q)⟩
    clear e1 ho ho' 
    go_enter Try.func30, Try.ntmps30
    go_wp2_with ((with_reducible refine HC.out.mono ?_); rintro e w' ⟨rfl, q, rfl⟩)
    go_ret
    exact HQ.out q

end Go.Proofs.Ytcedenhfchcgiaa
