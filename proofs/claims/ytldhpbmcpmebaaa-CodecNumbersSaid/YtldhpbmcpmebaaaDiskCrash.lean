/- Crash. -/
import Derived.Test.YtldhpbmcpmebaaaDiskOps
set_option linter.unusedVariables false
set_option linter.unusedSimpArgs false
namespace Go.Proofs.Ytldhpbmcpmebaaa
open Go.RowKit

def intsV (l : List Int) : List Value := l.map fun n => .int .i64 n
theorem intsV_length (l : List Int) : (intsV l).length = l.length := by simp [intsV]
theorem intsV_get (l : List Int) (j : Nat) (h : j < l.length) : (intsV l)[j]? = some (.int .i64 l[j]) := by simp [intsV, h]

/-- How many bytes of file i a crash leaves. -/
def DS.left (d : DS) (keep : List Int) (i : Nat) : Nat := d.syn i + if i < keep.length then min (keep.getD i 0).toNat (d.len i - d.syn i) else 0
def DS.crashTo (d : DS) (keep : List Int) (k : Nat) : DS :=
  { d with data := fun i => if i < k then (d.data i).take (d.left keep i) else d.data i, syn := fun i => if i < k then d.left keep i else d.syn i }
def DS.crash (d : DS) (keep : List Int) : DS := { d.crashTo keep 8 with plan := 0, off := false }

theorem DS.left_le {d : DS} (h : d.Ok) (keep : List Int) {i : Nat} (hi : i < 8) : d.left keep i ≤ d.len i := by
  have := h.syn i hi
  unfold DS.left
  split <;> omega
theorem crashTo_zero (d : DS) (keep : List Int) : d.crashTo keep 0 = d := by
  unfold DS.crashTo
  simp
theorem crashTo_succ (d : DS) (keep : List Int) (k : Nat) : d.crashTo keep (k + 1) = { d.crashTo keep k with data := upd (d.crashTo keep k).data k ((d.data k).take (d.left keep k)), syn := upd (d.crashTo keep k).syn k (d.left keep k) } := by
  unfold DS.crashTo upd
  congr 1
  · funext j
    by_cases h : j = k
    · subst h; simp
    · simp only [h, if_false]
      by_cases h2 : j < k
      · rw [if_pos h2, if_pos (by omega)]
      · rw [if_neg h2, if_neg (by omega)]
  · funext j
    by_cases h : j = k
    · subst h; simp
    · simp only [h, if_false]
      by_cases h2 : j < k
      · rw [if_pos h2, if_pos (by omega)]
      · rw [if_neg h2, if_neg (by omega)]
theorem crashTo_at (d : DS) (keep : List Int) (k : Nat) : (d.crashTo keep k).data k = d.data k ∧ (d.crashTo keep k).syn k = d.syn k := by simp [DS.crashTo]


/-- What a round of the loop leaves. -/
def CrashAt (w : World) (b : Nat) (V : Nat → Value) (d : DS) (keep : List Int) (k : Nat) (wr : World) : Prop :=
  ∃ V', DiskAt wr b (d.crashTo keep k) V' ∧ (∀ x, dfoot b V' x → dfoot b V x) ∧ Only (dfoot b V) w wr
theorem CrashAt.drewN {w : World} {b : Nat} {V : Nat → Value} {d : DS} {keep : List Int} {k : Nat} {wr : World} (h : CrashAt w b V d keep k wr) (q : Nat) : CrashAt w b V d keep k (wr.drewN q) := by
  obtain ⟨V', h1, h2, h3⟩ := h
  exact ⟨V', h1.drewN q, h2, h3.drewN q⟩
theorem CrashAt.drew {w : World} {b : Nat} {V : Nat → Value} {d : DS} {keep : List Int} {k : Nat} {wr : World} (h : CrashAt w b V d keep k wr) : CrashAt w b V d keep k wr.drew := by
  obtain ⟨V', h1, h2, h3⟩ := h
  exact ⟨V', h1.drew, h2, h3.drew⟩
theorem CrashAt.next {w : World} {b : Nat} {V : Nat → Value} {d : DS} {keep : List Int} {k : Nat} {wr : World} {V' : Nat → Value} (hA : DiskAt wr b (d.crashTo keep k) V') (hS : ∀ x, dfoot b V' x → dfoot b V x) (ho : Only (dfoot b V) w wr) (hk : k < 8)
    {A : Option Addr} {c : Nat} (e : V' k = .slice A (d.len k) c) (m : Nat) (hm : m = d.left keep k) (hle : m ≤ d.len k) :
    CrashAt w b V d keep (k + 1) ((wr.setCell ⟨b, 1 + k * 2, none⟩ (.slice A m c)).setCell ⟨b, 1 + k * 2 + 1, none⟩ (.int .i64 m)) := by
  subst hm
  have hown := hA.own k hk
  rw [e] at hown
  have e2 : (d.crashTo keep k).len k = d.len k := by unfold DS.len; rw [(crashTo_at d keep k).1]
  rw [e2, (crashTo_at d keep k).1] at hown
  have h2 := own_take hown _ hle
  have h3 : wr.ownsRow 0 5 1 (.slice A (d.left keep k) c) ((d.data k).take (d.left keep k)).length (bytesV ((d.data k).take (d.left keep k))) := by
    rw [List.length_take, Nat.min_eq_left (show d.left keep k ≤ (d.data k).length from hle), bytesV_take]
    exact h2
  refine ⟨upd V' k (.slice A (d.left keep k) c), ?_, ?_, ((ho.setCell (.inl (.inl rfl)) _).setCell (.inl (.inl rfl)) _)⟩
  · rw [crashTo_succ]
    refine (hA.set_data (w1 := wr) hk ⟨rfl, rfl, rfl, Nat.le_refl _, fun _ _ _ => rfl⟩ h3 ?_).set_syn hk _
    rw [e]
    exact .inr (.inl (ownBlock_len _ _ _ _ _))
  · rintro x (hx | ⟨j, hj, hx⟩)
    · exact .inl hx
    · by_cases ej : j = k
      · subst ej
        rw [upd_same] at hx
        exact hS x (.inr ⟨j, hj, by rw [e, ← hx]; exact ownBlock_len _ _ _ _ _⟩)
      · rw [upd_ne _ _ ej] at hx
        exact hS x (.inr ⟨j, hj, hx⟩)

set_option maxHeartbeats 1000000 in
theorem crash_at {w : World} {b : Nat} {d : DS} {V : Nat → Value} (h : DiskAt w b d V) (hok : d.Ok) (A0 : Option Addr) (n0 c0 : Nat) (keep : List Int) (hn : n0 = keep.length) (hx : ∀ j, j < keep.length → ∃ ab ao, A0 = some ⟨ab, ao, none⟩ ∧ ¬ dfoot b V ab ∧ w.cell? ⟨ab, ao + j, none⟩ = some (.int .i64 (keep.getD j 0))) :
    Calls Try.prog 36 #[.pointer (some ⟨b, 0, none⟩), .slice A0 n0 c0] w fun e w' => e = .returned (.tuple #[]) ∧ ∃ V', DiskAt w' b (d.crash keep) V' ∧ (∀ x, dfoot b V' x → dfoot b V x) ∧ Only (dfoot b V) w w' := by
  subst hn
  have HX := hide hx
  have HK := hide hok
  have H0 : Hid (CrashAt w b V d keep 0 w) := ⟨V, by rw [crashTo_zero]; exact h, fun _ h => h, Only.refl _ _⟩
  clear hx hok h
  go_enter Try.func36, Try.ntmps36
  go_wp2
  go_loopw [7] (fun i wr => ∃ k : Nat, k ≤ 8 ∧ i = .int .i64 k ∧ CrashAt w b V d keep k wr) (fun i _ => 8 - (intOf i).toNat)
  case atStart => exact ⟨0, by omega, rfl, H0⟩
  case round =>
    obtain ⟨k, hk, rfl, hC⟩ := hrel
    by_cases hlt : k < 8
    · obtain ⟨V', hA, hS, ho⟩ := hC
      obtain ⟨A, c, eV, hcap⟩ := own_form_le (hA.own k hlt)
      have e2 : (d.crashTo keep k).len k = d.len k := by unfold DS.len; rw [(crashTo_at d keep k).1]
      rw [e2] at eV hcap
      have hd := hA.cell_data hlt
      have hs := hA.cell_syn hlt
      rw [eV] at hd
      rw [(crashTo_at d keep k).2] at hs
      have hf := hA.frozen (1 + k * 2)
      have hf2 := hA.frozen (1 + k * 2 + 1)
      have hsy := HK.out.syn k hlt
      have hbd := HK.out.len hlt
      have HN := hide (fun m hm hle => CrashAt.next hA hS ho hlt eV m hm hle)
      have HQ := hide (fun q m hm hle => CrashAt.next (hA.drewN q) hS (ho.drewN q) hlt eV m hm hle)
      have hL := hide (show d.left keep k = d.syn k + if k < keep.length then min (keep.getD k 0).toNat (d.len k - d.syn k) else 0 from rfl)
      by_cases hkl : k < keep.length
      · obtain ⟨ab, ao, rfl, hab, hcell⟩ := HX.out k hkl
        have hce := ho.cell hcell hab
        clear hcell hab e2 eV hA hS ho
        obtain ⟨x, hxe⟩ : ∃ x, keep.getD k 0 = x := ⟨_, rfl⟩
        rw [hxe] at hce
        have hxe' := hide hxe
        clear hxe
        by_cases hx0 : x < 0
        · have HM := hide (show d.syn k = d.left keep k from by rw [hL.out, if_pos hkl, hxe'.out]; omega)
          have hsc : d.syn k ≤ c := by omega
          go_wp2
          go_quiet (fail)
          go_wp2
          go_region
          all_goals
            go_wp2
            go_roundw
            case rel => exact ⟨k + 1, by omega, by go_num, HQ.out _ _ HM.out hsy⟩
            case measure => simp [intOf]; omega
        · obtain ⟨y, rfl⟩ := Int.eq_ofNat_of_zero_le (show 0 ≤ x by omega)
          by_cases hxl : ¬ (d.len k : Int) - (d.syn k : Int) < (y : Int)
          · have HM := hide (show d.syn k + y = d.left keep k from by rw [hL.out, if_pos hkl, hxe'.out]; omega)
            have hsc : d.syn k + y ≤ c := by omega
            go_wp2
            go_quiet (fail)
            go_wp2
            go_region
            all_goals
              go_wp2
              go_roundw
              case rel => exact ⟨k + 1, by omega, by go_num, HQ.out _ _ HM.out (by omega)⟩
              case measure => simp [intOf]; omega
          · have hxl' : (d.len k : Int) - (d.syn k : Int) < (y : Int) := by omega
            have HM := hide (show d.len k = d.left keep k from by rw [hL.out, if_pos hkl, hxe'.out]; omega)
            go_wp2
            go_quiet (fail)
            go_wp2
            go_region
            all_goals
              go_wp2
              go_roundw
              case rel => exact ⟨k + 1, by omega, by go_num, HQ.out _ _ HM.out (by omega)⟩
              case measure => simp [intOf]; omega
      · have HM : Hid (d.syn k = d.left keep k) := by rw [hL.out, if_neg hkl]; rfl
        have hsc : d.syn k ≤ c := by omega
        clear e2 eV hA hS ho
        go_wp2
        go_region
        all_goals
          go_wp2
          go_roundw
          case rel => exact ⟨k + 1, by omega, by go_num, (HN.out _ HM.out hsy).drew⟩
          case measure => simp [intOf]; omega
    · obtain rfl : k = 8 := by omega
      obtain ⟨V', hA, hS, ho⟩ := hC
      have hc1 := hA.cell_plan
      have hc2 := hA.cell_off
      have hf1 := hA.frozen 17
      have hf2 := hA.frozen 18
      have H1 := hide hA
      have H2 := hide hS
      have H3 := hide ho
      clear hA hS ho
      go_wp2
      go_end0
      exact ⟨rfl, V', (H1.out.set_off false).set_plan 0, H2, (H3.out.setCell (.inl (.inl rfl)) _).setCell (.inl (.inl rfl)) _⟩


theorem crash_len (d : DS) (hok : d.Ok) (keep : List Int) {i : Nat} (hi : i < 8) : (d.crash keep).len i = d.left keep i ∧ (d.crash keep).syn i = d.left keep i := by
  have := DS.left_le hok keep hi
  unfold DS.crash DS.crashTo DS.len
  simp only [hi, if_true]
  refine ⟨?_, trivial⟩
  rw [List.length_take]
  exact Nat.min_eq_left this
theorem crash_ok {d : DS} (hok : d.Ok) (keep : List Int) : (d.crash keep).Ok := by
  refine ⟨hok.room, ?_, fun i hi => ?_, Nat.zero_le _⟩
  · refine Nat.le_trans ?_ hok.used
    show sumTo _ 8 ≤ sumTo _ 8
    have : ∀ n, n ≤ 8 → sumTo (d.crash keep).len n ≤ sumTo d.len n := by
      intro n
      induction n with
      | zero => intro _; exact Nat.le_refl _
      | succ n ih =>
        intro hn
        have h1 := ih (by omega)
        have h2 := (crash_len d hok keep (show n < 8 by omega)).1
        have h3 := DS.left_le hok keep (show n < 8 by omega)
        simp only [sumTo]
        omega
    exact this 8 (Nat.le_refl _)
  · rw [(crash_len d hok keep hi).1, (crash_len d hok keep hi).2]
    exact Nat.le_refl _

theorem crash_any {w : World} {b : Nat} {d : DS} {S : Nat → Prop} (h : DiskIn w b d S) (x : Value) (keep : List Int) (hx : Rds w x (intsV keep)) (hxS : ∀ k, rdBlock x = some k → ¬ S k) :
    Calls Try.prog 36 #[.pointer (some ⟨b, 0, none⟩), x] w (DoEnd w b S (d.crash keep)) := by
  obtain ⟨hok, V, hA, hS⟩ := h
  obtain ⟨A, c, rfl, hle, _, hnil, hsp, hc⟩ := hx
  refine (crash_at hA hok A _ c keep (intsV_length keep) ?_).mono ?_
  · intro j hj
    cases A with
    | none =>
      have := hnil rfl
      rw [intsV_length] at hle
      omega
    | some a =>
      have h1 := hsp a rfl (by rw [intsV_length]; omega)
      have h2 := hc a rfl j _ (intsV_get keep j hj)
      rw [addr_eta a h1] at h2
      obtain ⟨ab, ao, s⟩ := a
      simp only at h1
      subst h1
      refine ⟨ab, ao, rfl, fun hf => hxS ab (if_neg (by rw [intsV_length]; omega)) (hS ab hf), ?_⟩
      rw [h2, List.getD_eq_getElem?_getD, List.getElem?_eq_getElem hj]
      rfl
  · rintro e w' ⟨rfl, V', hD, hv, hO⟩
    exact ⟨rfl, dfoot b V', ⟨crash_ok hok keep, _, hD, fun _ h => h⟩, hO.mono fun k _ hk => hS k hk, fun k hk => .inl (hS k (hv k hk))⟩

end Go.Proofs.Ytldhpbmcpmebaaa
