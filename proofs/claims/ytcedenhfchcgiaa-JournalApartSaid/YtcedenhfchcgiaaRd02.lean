/- Plain laws of the codec: what was written is read back; what is read was written so; what is cut off is read as cut off. -/
import Derived.Test.YtcedenhfchcgiaaCod02h
set_option linter.unusedVariables false
set_option linter.unusedSimpArgs false
namespace Go.Proofs.Ytcedenhfchcgiaa.Cd
open Go.RowKit

theorem drop_cons' {l : List UInt8} {k : Nat} {x : UInt8} {t : List UInt8} (h : l.drop k = x :: t) : ∃ hk : k < l.length, l[k] = x ∧ l.drop (k + 1) = t := by
  have hk : k < l.length := by
    rcases Nat.lt_or_ge k l.length with h1 | h1
    · exact h1
    · rw [List.drop_eq_nil_of_le h1] at h; cases h
  refine ⟨hk, ?_⟩
  rw [List.drop_eq_getElem_cons hk] at h
  injection h with h1 h2
  exact ⟨h1, h2⟩
theorem drop_app {l X t : List UInt8} {k : Nat} (h : l.drop k = X ++ t) : l.drop (k + X.length) = t := by
  rw [← List.drop_drop, h, List.drop_left]
theorem drop_nil_not {l : List UInt8} {k : Nat} (h : l.drop k = []) : ¬ k < l.length := by
  intro hk
  rw [List.drop_eq_getElem_cons hk] at h
  cases h
theorem pow128 (j : Nat) : 2 ^ (7 * (j + 1)) = 128 * 2 ^ (7 * j) := by rw [Nat.mul_add, Nat.pow_add, Nat.mul_comm]
theorem split128 (m P : Nat) : m % 128 * P + m / 128 * (128 * P) = m * P := by
  have h : m = 128 * (m / 128) + m % 128 := (Nat.div_add_mod m 128).symm
  calc m % 128 * P + m / 128 * (128 * P) = m % 128 * P + (128 * (m / 128)) * P := by rw [← Nat.mul_assoc, Nat.mul_comm (m / 128) 128]
    _ = (128 * (m / 128) + m % 128) * P := by rw [Nat.add_mul, Nat.add_comm]
    _ = m * P := by rw [← h]
theorem pow70 : (2 : Nat) ^ (7 * 10) = 1180591620717411303424 := by decide
theorem pow63 : (2 : Nat) ^ (7 * 9) = 9223372036854775808 := by decide
theorem toNat_small {m : Nat} (h : m < 256) : (UInt8.ofNat m).toNat = m := by rw [UInt8.toNat_ofNat']; omega
theorem leb_ne (m : Nat) : leb m ≠ [] := by
  by_cases h : m < 128
  · rw [leb_small h]; simp
  · rw [leb_big h]; simp
theorem leb_pos (m : Nat) : 0 < (leb m).length := List.length_pos_iff.2 (leb_ne m)

theorem rdU_leb (l : List UInt8) (at_ : Nat) : ∀ f j N m, f + j = 10 → (j = 0 ∨ 0 < m) → N < 2 ^ (7 * j) → N + m * 2 ^ (7 * j) < 18446744073709551616 → (∃ t, l.drop (at_ + j) = leb m ++ t) →
    rdU l at_ f j N = (N + m * 2 ^ (7 * j), at_ + j + (leb m).length, 0) := by
  intro f
  induction f with
  | zero =>
    intro j N m hf hj hN hm _
    obtain rfl : j = 10 := by omega
    rw [pow70] at hm
    omega
  | succ f ih =>
    intro j N m hf hj hN hm ⟨t, ht⟩
    by_cases h128 : m < 128
    · rw [leb_small h128] at ht ⊢
      obtain ⟨hk, hx, _⟩ := drop_cons' ht
      have hc : l[at_ + j].toNat = m := by rw [hx]; exact toNat_small (by omega)
      rw [rdU_ok hk (by omega) ?_, hc]
      · rfl
      · rw [hc]
        rintro (⟨h1, h2⟩ | ⟨rfl, h2⟩)
        · omega
        · rw [pow63] at hm; omega
    · rw [leb_big h128] at ht ⊢
      obtain ⟨hk, hx, hd⟩ := drop_cons' ht
      have hc : l[at_ + j].toNat = m % 128 + 128 := by rw [hx]; exact toNat_small (by omega)
      rw [rdU_step hk (by omega), hc, show (m % 128 + 128) % 128 = m % 128 by omega]
      have e := pow128 j
      have hs := split128 m (2 ^ (7 * j))
      rw [ih (j + 1) _ (m / 128) (by omega) (.inr (by omega)) (pow_step j N _ hN (by omega)) (by rw [e]; omega) ⟨t, hd⟩]
      rw [e, List.length_cons, show N + m % 128 * 2 ^ (7 * j) + m / 128 * (128 * 2 ^ (7 * j)) = N + m * 2 ^ (7 * j) by omega, show at_ + (j + 1) + (leb (m / 128)).length = at_ + j + ((leb (m / 128)).length + 1) by omega]
theorem rdUint_leb {l t : List UInt8} {at_ m : Nat} (hm : m < 18446744073709551616) (h : l.drop at_ = leb m ++ t) : rdUint l at_ = (m, at_ + (leb m).length, 0) := by
  have := rdU_leb l at_ 10 0 0 m rfl (.inl rfl) (by decide) (by simpa using hm) ⟨t, h⟩
  simpa [rdUint] using this

theorem rdU_cut (l : List UInt8) (at_ : Nat) : ∀ f j N m, f + j = 10 → (j = 0 ∨ 0 < m) → m * 2 ^ (7 * j) < 18446744073709551616 → (∃ k, k < (leb m).length ∧ l.drop (at_ + j) = (leb m).take k) →
    rdU l at_ f j N = (0, 0, 20) := by
  intro f
  induction f with
  | zero =>
    intro j N m hf hj hm _
    obtain rfl : j = 10 := by omega
    rw [pow70] at hm
    omega
  | succ f ih =>
    intro j N m hf hj hm ⟨k, hk, hd⟩
    cases k with
    | zero => exact rdU_end (drop_nil_not (by simpa using hd))
    | succ k =>
      by_cases h128 : m < 128
      · rw [leb_small h128] at hk; simp at hk
      · rw [leb_big h128, List.length_cons] at hk
        rw [leb_big h128, List.take_succ_cons] at hd
        obtain ⟨hk2, hx, hd2⟩ := drop_cons' hd
        have hc : l[at_ + j].toNat = m % 128 + 128 := by rw [hx]; exact toNat_small (by omega)
        rw [rdU_step hk2 (by omega)]
        refine ih (j + 1) _ (m / 128) (by omega) (.inr (by omega)) ?_ ⟨k, by omega, hd2⟩
        have hs := split128 m (2 ^ (7 * j))
        rw [pow128]
        omega
theorem rdUint_cut {l : List UInt8} {at_ m k : Nat} (hm : m < 18446744073709551616) (hk : k < (leb m).length) (h : l.drop at_ = (leb m).take k) : rdUint l at_ = (0, 0, 20) :=
  rdU_cut l at_ 10 0 0 m rfl (.inl rfl) (by simpa using hm) ⟨k, hk, h⟩

theorem ofNat_of {b : UInt8} {m : Nat} (h : b.toNat = m) : UInt8.ofNat m = b := by subst h; simp
theorem rdU_inv (l : List UInt8) (at_ : Nat) : ∀ f j N n next, f + j = 10 → N < 2 ^ (7 * j) → rdU l at_ f j N = (n, next, 0) →
    ∃ m, (j = 0 ∨ 0 < m) ∧ n = N + m * 2 ^ (7 * j) ∧ n < 18446744073709551616 ∧ next = at_ + j + (leb m).length ∧ next ≤ l.length ∧ l.drop (at_ + j) = leb m ++ l.drop next := by
  intro f
  induction f with
  | zero => intro j N n next hf hN h; simp [rdU] at h
  | succ f ih =>
    intro j N n next hf hN h
    by_cases hk : at_ + j < l.length
    · by_cases hc : l[at_ + j].toNat < 128
      · by_cases hb : (0 < j ∧ l[at_ + j].toNat = 0) ∨ (j = 9 ∧ 1 < l[at_ + j].toNat)
        · rw [rdU_bad hk hc hb] at h; simp at h
        · rw [rdU_ok hk hc hb] at h
          injection h with h1 h2
          injection h2 with h2 _
          refine ⟨l[at_ + j].toNat, ?_, h1.symm, ?_, ?_, by omega, ?_⟩
          · by_cases h0 : j = 0
            · exact .inl h0
            · exact .inr (Nat.pos_of_ne_zero fun e => hb (.inl ⟨by omega, e⟩))
          · rw [← h1]
            by_cases hj9 : j = 9
            · subst hj9
              exact pow_last N _ hN (by omega)
            · have h1 := pow_step j N _ hN hc
              have h2 := pow_le j (by omega)
              omega
          · rw [leb_small hc]; exact h2.symm
          · rw [leb_small hc, ofNat_of rfl, ← h2]
            exact List.drop_eq_getElem_cons hk
      · rw [rdU_step hk hc] at h
        have h256 := l[at_ + j].toNat_lt
        obtain ⟨m, hm, h1, h2, h3, h4, h5⟩ := ih (j + 1) _ n next (by omega) (pow_step j N _ hN (by omega)) h
        have hm0 : 0 < m := by omega
        have hM : ¬ l[at_ + j].toNat % 128 + 128 * m < 128 := by omega
        refine ⟨l[at_ + j].toNat % 128 + 128 * m, .inr (by omega), ?_, h2, ?_, h4, ?_⟩
        · rw [h1, pow128, Nat.add_mul, Nat.mul_assoc, Nat.mul_left_comm, Nat.add_assoc]
        · rw [leb_big hM, List.length_cons, show (l[at_ + j].toNat % 128 + 128 * m) / 128 = m by omega]
          omega
        · rw [leb_big hM, show (l[at_ + j].toNat % 128 + 128 * m) / 128 = m by omega, show (l[at_ + j].toNat % 128 + 128 * m) % 128 + 128 = l[at_ + j].toNat by omega, ofNat_of rfl]
          rw [List.drop_eq_getElem_cons hk]
          show _ :: l.drop (at_ + (j + 1)) = _
          rw [h5]
          rfl
    · rw [rdU_end hk] at h; simp at h
theorem rdUint_inv {l : List UInt8} {at_ n next : Nat} (h : rdUint l at_ = (n, next, 0)) : n < 18446744073709551616 ∧ next = at_ + (leb n).length ∧ next ≤ l.length ∧ l.drop at_ = leb n ++ l.drop next := by
  obtain ⟨m, _, h1, h2, h3, h4, h5⟩ := rdU_inv l at_ 10 0 0 n next rfl (by decide) h
  have : n = m := by simpa using h1
  subst this
  exact ⟨h2, h3, h4, h5⟩

/-! ### zigzag back -/
def unzig (n : Nat) : Int := if n % 2 = 0 then ((n / 2 : Nat) : Int) else -((n / 2 : Nat) : Int) - 1
theorem unzig_zig (m : Int) : unzig (zig m) = m := by
  unfold zig unzig
  by_cases h : 0 ≤ m
  · rw [if_pos h, if_pos (by omega)]; omega
  · rw [if_neg h, if_neg (by omega)]; omega
theorem zig_unzig (n : Nat) : zig (unzig n) = n := by
  unfold zig unzig
  by_cases h : n % 2 = 0
  · rw [if_pos h, if_pos (by omega)]; omega
  · rw [if_neg h, if_neg (by omega)]; omega
theorem unzig_range {n : Nat} (h : n < 18446744073709551616) : -9223372036854775808 ≤ unzig n ∧ unzig n ≤ 9223372036854775807 := by
  unfold unzig
  split <;> omega

/-! ### texts, values, rows -/
def rdText (l : List UInt8) (at_ most : Nat) : ByteArray × Nat × Int :=
  if (rdUint l at_).2.2 = 0 then
    if most < (rdUint l at_).1 then (⟨#[]⟩, 0, 2) else
    if l.length - (rdUint l at_).2.1 < (rdUint l at_).1 then (⟨#[]⟩, 0, 20) else
    (strOf ((l.drop (rdUint l at_).2.1).take (rdUint l at_).1), (rdUint l at_).2.1 + (rdUint l at_).1, 0)
  else (⟨#[]⟩, 0, (rdUint l at_).2.2)
def rdVal (l : List UInt8) (at_ : Nat) : VD × Nat × Int :=
  if h : at_ < l.length then
    if l[at_].toNat = 1 ∨ l[at_].toNat = 2 then (⟨l[at_].toNat, 0, ⟨#[]⟩⟩, at_ + 1, 0) else
    if l[at_].toNat = 3 then
      if h2 : at_ + 1 < l.length then
        if 1 < l[at_ + 1].toNat then (vd0, 0, 21) else (⟨3, l[at_ + 1].toNat, ⟨#[]⟩⟩, at_ + 1 + 1, 0)
      else (vd0, 0, 20) else
    if l[at_].toNat = 4 then
      if (rdUint l (at_ + 1)).2.2 = 0 then (⟨4, unzig (rdUint l (at_ + 1)).1, ⟨#[]⟩⟩, (rdUint l (at_ + 1)).2.1, 0) else (vd0, 0, (rdUint l (at_ + 1)).2.2) else
    if l[at_].toNat = 5 then
      if (rdText l (at_ + 1) 64).2.2 = 0 then (⟨5, 0, (rdText l (at_ + 1) 64).1⟩, (rdText l (at_ + 1) 64).2.1, 0) else (vd0, 0, (rdText l (at_ + 1) 64).2.2) else
    (vd0, 0, 21)
  else (vd0, 0, 20)
def rdCells (l : List UInt8) : Nat → Nat → List VD × Nat × Int
  | 0, at_ => ([], at_, 0)
  | k + 1, at_ =>
    if (rdVal l at_).2.2 = 0 then
      if (rdCells l k (rdVal l at_).2.1).2.2 = 0 then ((rdVal l at_).1 :: (rdCells l k (rdVal l at_).2.1).1, (rdCells l k (rdVal l at_).2.1).2.1, 0) else ([], 0, (rdCells l k (rdVal l at_).2.1).2.2)
    else ([], 0, (rdVal l at_).2.2)
def rdRow (l : List UInt8) (at_ : Nat) : List VD × Nat × Int :=
  if (rdUint l at_).2.2 = 0 then
    if 12 < (rdUint l at_).1 then ([], 0, 2) else rdCells l (rdUint l at_).1 (rdUint l at_).2.1
  else ([], 0, (rdUint l at_).2.2)

theorem strOf_data (s : ByteArray) : strOf s.data.toList = s := by
  obtain ⟨d⟩ := s
  simp [strOf]
theorem strOf_size (l : List UInt8) : (strOf l).size = l.length := by simp [strOf, ByteArray.size]
theorem data_len (s : ByteArray) : s.data.toList.length = s.size := by rw [Array.length_toList]; rfl
theorem str_nil {s : ByteArray} (h : s.toList = []) : s = ⟨#[]⟩ := by
  rw [bytes_toList] at h
  obtain ⟨d⟩ := s
  simp at h
  rw [h]

theorem rdText_enc {l t : List UInt8} {at_ most : Nat} {s : ByteArray} (hs : s.size ≤ most) (hs2 : s.size < 18446744073709551616) (h : l.drop at_ = leb s.size ++ s.data.toList ++ t) :
    rdText l at_ most = (s, at_ + (leb s.size ++ s.data.toList).length, 0) := by
  rw [List.append_assoc] at h
  have h1 := rdUint_leb hs2 h
  have h2 := drop_app h
  have h3 : ¬ l.length - (at_ + (leb s.size).length) < s.size := by
    have := congrArg List.length h2
    rw [List.length_drop, List.length_append, data_len] at this
    omega
  unfold rdText
  rw [h1, if_pos rfl, if_neg (by omega), if_neg h3, h2, List.length_append, data_len]
  rw [show List.take s.size (s.data.toList ++ t) = s.data.toList by rw [← data_len s]; exact List.take_left, strOf_data, Nat.add_assoc]
theorem rdText_cut {l : List UInt8} {at_ most k : Nat} {s : ByteArray} (hs : s.size ≤ most) (hs2 : s.size < 18446744073709551616) (hk : k < (leb s.size ++ s.data.toList).length) (h : l.drop at_ = (leb s.size ++ s.data.toList).take k) :
    rdText l at_ most = (⟨#[]⟩, 0, 20) := by
  unfold rdText
  by_cases hc : k < (leb s.size).length
  · rw [List.take_append_of_le_length (by omega)] at h
    rw [rdUint_cut hs2 hc h, if_neg (by decide)]
  · rw [List.take_append, List.take_of_length_le (by omega)] at h
    have h1 := rdUint_leb hs2 h
    have h2 := drop_app h
    rw [List.length_append, data_len] at hk
    have h3 : l.length - (at_ + (leb s.size).length) < s.size := by
      have := congrArg List.length h2
      rw [List.length_drop, List.length_take, data_len] at this
      omega
    rw [h1, if_pos rfl, if_neg (by omega), if_pos h3]
theorem rdText_inv {l : List UInt8} {at_ most next : Nat} {s : ByteArray} (h : rdText l at_ most = (s, next, 0)) :
    s.size ≤ most ∧ s.size < 18446744073709551616 ∧ next = at_ + (leb s.size ++ s.data.toList).length ∧ next ≤ l.length ∧ l.drop at_ = leb s.size ++ s.data.toList ++ l.drop next := by
  unfold rdText at h
  obtain ⟨⟨n, x, c⟩, hr⟩ : ∃ r, rdUint l at_ = r := ⟨_, rfl⟩
  rw [hr] at h
  simp only at h
  split at h
  · rename_i hc
    subst hc
    split at h
    · simp at h
    · split at h
      · simp at h
      · rename_i h1 h2
        injection h with h3 h4
        injection h4 with h4 _
        obtain ⟨i1, i2, i3, i4⟩ := rdUint_inv hr
        subst h3
        have hl : ((l.drop x).take n).length = n := by rw [List.length_take, List.length_drop]; omega
        have hd : (strOf ((l.drop x).take n)).data.toList = (l.drop x).take n := by simp [strOf]
        rw [strOf_size, hl, hd, List.length_append, hl]
        refine ⟨by omega, i1, by omega, by omega, ?_⟩
        rw [i4, List.append_assoc, ← h4, ← List.drop_drop, List.take_append_drop]
  · rename_i hc
    injection h with _ h
    injection h with _ h
    exact absurd h hc

theorem enc_ne (v : VD) : enc v ≠ [] := by unfold enc; simp
theorem rdVal_enc {l t : List UInt8} {at_ : Nat} {v : VD} (hv : v.valid = true) (hf : v.Fits) (h : l.drop at_ = enc v ++ t) : rdVal l at_ = (v, at_ + (enc v).length, 0) := by
  obtain ⟨kind, n, s⟩ := v
  unfold enc at h ⊢
  simp only [List.cons_append] at h
  obtain ⟨hk, hx, hd⟩ := drop_cons' h
  try simp only at hx hd
  have hv' := hv
  unfold VD.valid at hv'
  try simp only at hv'
  have hkind := valid_kind hv
  simp only at hkind
  unfold rdVal
  rw [dif_pos hk]
  rcases hkind with rfl | rfl | ⟨rfl, hn⟩ | rfl | ⟨rfl, hs⟩
  · have hc : l[at_].toNat = 1 := by rw [hx]; rfl
    simp at hv'
    rw [if_pos (.inl hc), hc, hv'.1, str_nil hv'.2]
    simp
  · have hc : l[at_].toNat = 2 := by rw [hx]; rfl
    simp at hv'
    rw [if_pos (.inr hc), hc, hv'.1, str_nil hv'.2]
    simp
  · have hc : l[at_].toNat = 3 := by rw [hx]; rfl
    simp at hv'
    rw [if_neg (by omega), if_pos hc]
    rw [if_pos rfl] at hd
    obtain ⟨hk2, hx2, _⟩ := drop_cons' hd
    have hc2 : (l[at_ + 1].toNat : Int) = n := by
      rw [hx2]
      rcases hn with rfl | rfl <;> rfl
    rw [dif_pos hk2, if_neg (by omega), hc2, str_nil hv'.2]
    simp
  · have hc : l[at_].toNat = 4 := by rw [hx]; rfl
    simp at hv'
    rw [if_neg (by omega), if_neg (by omega), if_pos hc]
    rw [if_neg (by simp), if_pos rfl] at hd
    rw [rdUint_leb (zig_lt hf.n0 hf.n1) hd, if_pos rfl, unzig_zig, str_nil hv']
    rw [if_neg (by simp), if_pos rfl, List.length_cons]
    rw [Nat.add_assoc, Nat.add_comm 1]
  · have hc : l[at_].toNat = 5 := by rw [hx]; rfl
    simp at hv'
    rw [if_neg (by omega), if_neg (by omega), if_neg (by omega), if_pos hc]
    rw [if_neg (by simp), if_neg (by simp), if_pos rfl] at hd
    rw [rdText_enc (by omega) (by omega) hd, if_pos rfl, hv'.1]
    rw [if_neg (by simp), if_neg (by simp), if_pos rfl, List.length_cons]
    rw [Nat.add_assoc, Nat.add_comm 1]
theorem rdVal_cut {l : List UInt8} {at_ k : Nat} {v : VD} (hv : v.valid = true) (hf : v.Fits) (hk : k < (enc v).length) (h : l.drop at_ = (enc v).take k) : rdVal l at_ = (vd0, 0, 20) := by
  cases k with
  | zero =>
    unfold rdVal
    rw [dif_neg (drop_nil_not (by simpa using h))]
  | succ k =>
    obtain ⟨kind, n, s⟩ := v
    unfold enc at h hk
    simp only [List.take_succ_cons, List.length_cons] at h hk
    obtain ⟨hk1, hx, hd⟩ := drop_cons' h
    have hv' := hv
    unfold VD.valid at hv'
    try simp only at hv'
    have hkind := valid_kind hv
    simp only at hkind
    unfold rdVal
    rw [dif_pos hk1]
    rcases hkind with rfl | rfl | ⟨rfl, hn⟩ | rfl | ⟨rfl, hs⟩
    · simp at hk
    · simp at hk
    · have hc : l[at_].toNat = 3 := by rw [hx]; rfl
      rw [if_neg (by omega), if_pos hc]
      rw [if_pos rfl] at hd hk
      have hk0 : k = 0 := by simp at hk; omega
      subst hk0
      rw [dif_neg (drop_nil_not (by simpa using hd))]
    · have hc : l[at_].toNat = 4 := by rw [hx]; rfl
      rw [if_neg (by omega), if_neg (by omega), if_pos hc]
      rw [if_neg (by decide), if_pos rfl] at hd hk
      try simp only at hd hk
      rw [rdUint_cut (zig_lt hf.n0 hf.n1) (Nat.lt_of_succ_lt_succ hk) hd, if_neg (by decide)]
    · have hc : l[at_].toNat = 5 := by rw [hx]; rfl
      rw [if_neg (by omega), if_neg (by omega), if_neg (by omega), if_pos hc]
      rw [if_neg (by decide), if_neg (by decide), if_pos rfl] at hd hk
      rw [rdText_cut (by omega) (by omega) (Nat.lt_of_succ_lt_succ hk) hd, if_neg (by decide)]
theorem rdVal_inv {l : List UInt8} {at_ next : Nat} {v : VD} (h : rdVal l at_ = (v, next, 0)) : v.valid = true ∧ v.Fits ∧ next = at_ + (enc v).length ∧ next ≤ l.length ∧ l.drop at_ = enc v ++ l.drop next := by
  unfold rdVal at h
  split at h
  · rename_i hk
    have hL := List.drop_eq_getElem_cons hk
    split at h
    · rename_i hc
      injection h with h1 h2
      injection h2 with h2 _
      subst h1 h2
      refine ⟨?_, ⟨by simp, by simp⟩, ?_, hk, ?_⟩
      · unfold VD.valid
        rw [if_pos (by simp; omega)]
        simp [bytes_toList]
      · unfold enc
        rw [if_neg (by simp; omega), if_neg (by simp; omega), if_neg (by simp; omega)]
        rfl
      · unfold enc
        rw [if_neg (by simp; omega), if_neg (by simp; omega), if_neg (by simp; omega), hL]
        simp
    · split at h
      · rename_i hc
        split at h
        · rename_i hk2
          have hL2 := List.drop_eq_getElem_cons hk2
          split at h
          · simp [vd0] at h
          · rename_i hb
            injection h with h1 h2
            injection h2 with h2 _
            subst h1 h2
            refine ⟨?_, ⟨by simp, by simp; omega⟩, rfl, hk2, ?_⟩
            · unfold VD.valid
              rw [if_neg (by simp), if_pos rfl]
              simp [bytes_toList]
              omega
            · unfold enc
              rw [if_pos rfl, hL, hL2]
              have : l[at_] = UInt8.ofNat 3 := (ofNat_of hc).symm
              rw [this]
              simp
        · simp at h
      · split at h
        · rename_i hc
          obtain ⟨⟨n, x, c⟩, hr⟩ : ∃ r, rdUint l (at_ + 1) = r := ⟨_, rfl⟩
          rw [hr] at h
          simp only at h
          split at h
          · rename_i h0
            subst h0
            obtain ⟨i1, i2, i3, i4⟩ := rdUint_inv hr
            injection h with h1 h2
            injection h2 with h2 _
            subst h1 h2
            have e : enc ⟨4, unzig n, ⟨#[]⟩⟩ = UInt8.ofNat 4 :: leb n := by
              unfold enc
              rw [if_neg (by simp), if_pos rfl, zig_unzig]
              rfl
            refine ⟨?_, ⟨(unzig_range i1).1, (unzig_range i1).2⟩, ?_, i3, ?_⟩
            · unfold VD.valid
              rw [if_neg (by simp), if_neg (by simp), if_pos rfl]
              simp [bytes_toList]
            · rw [e, List.length_cons]; omega
            · rw [e, hL, i4, (ofNat_of hc)]
              rfl
          · rename_i h0
            injection h with _ h
            injection h with _ h
            exact absurd h h0
        · split at h
          · rename_i hc
            obtain ⟨⟨s, x, c⟩, hr⟩ : ∃ r, rdText l (at_ + 1) 64 = r := ⟨_, rfl⟩
            rw [hr] at h
            simp only at h
            split at h
            · rename_i h0
              subst h0
              obtain ⟨i0, i1, i2, i3, i4⟩ := rdText_inv hr
              injection h with h1 h2
              injection h2 with h2 _
              subst h1 h2
              have e : enc ⟨5, 0, s⟩ = UInt8.ofNat 5 :: (leb s.size ++ s.data.toList) := rfl
              refine ⟨?_, ⟨by simp, by simp⟩, ?_, i3, ?_⟩
              · unfold VD.valid
                rw [if_neg (by simp), if_neg (by simp), if_neg (by simp), if_pos rfl]
                simp
                omega
              · rw [e, List.length_cons]; omega
              · rw [e, hL, i4, (ofNat_of hc)]
                rfl
            · rename_i h0
              injection h with _ h
              injection h with _ h
              exact absurd h h0
          · simp at h
  · simp at h

/-- A row is valid: each of its cells is. -/
def AllOk (vs : List VD) : Prop := ∀ v ∈ vs, v.valid = true ∧ v.Fits
theorem rdCells_enc {l : List UInt8} (vs : List VD) : ∀ {at_ : Nat} {t : List UInt8}, AllOk vs → l.drop at_ = vs.flatMap enc ++ t → rdCells l vs.length at_ = (vs, at_ + (vs.flatMap enc).length, 0) := by
  induction vs with
  | nil => intro at_ t _ _; rfl
  | cons v vs ih =>
    intro at_ t hv h
    rw [List.flatMap_cons, List.append_assoc] at h
    have h1 := rdVal_enc (hv v (by simp)).1 (hv v (by simp)).2 h
    have h2 := ih (fun x hx => hv x (by simp [hx])) (drop_app h)
    rw [List.length_cons, rdCells, h1, if_pos rfl, h2, if_pos rfl, List.flatMap_cons, List.length_append, Nat.add_assoc]
theorem rdCells_cut {l : List UInt8} (vs : List VD) : ∀ {at_ k : Nat}, AllOk vs → k < (vs.flatMap enc).length → l.drop at_ = (vs.flatMap enc).take k → rdCells l vs.length at_ = ([], 0, 20) := by
  induction vs with
  | nil => intro at_ k _ h; simp at h
  | cons v vs ih =>
    intro at_ k hv hk h
    rw [List.flatMap_cons] at h hk
    rw [List.length_append] at hk
    rw [List.length_cons, rdCells]
    by_cases hc : k < (enc v).length
    · rw [List.take_append_of_le_length (by omega)] at h
      rw [rdVal_cut (hv v (by simp)).1 (hv v (by simp)).2 hc h, if_neg (by decide)]
    · rw [List.take_append, List.take_of_length_le (by omega)] at h
      rw [rdVal_enc (hv v (by simp)).1 (hv v (by simp)).2 h, if_pos rfl, ih (fun x hx => hv x (by simp [hx])) (by omega) (drop_app h), if_neg (by decide)]
theorem rdCells_inv {l : List UInt8} : ∀ (k : Nat) {at_ next : Nat} {vs : List VD}, at_ ≤ l.length → rdCells l k at_ = (vs, next, 0) → vs.length = k ∧ AllOk vs ∧ next = at_ + (vs.flatMap enc).length ∧ next ≤ l.length ∧ l.drop at_ = vs.flatMap enc ++ l.drop next := by
  intro k
  induction k with
  | zero =>
    intro at_ next vs ha h
    rw [rdCells] at h
    injection h with h1 h2
    injection h2 with h2 _
    subst h1 h2
    exact ⟨rfl, (show AllOk [] from fun v hv => absurd hv List.not_mem_nil), rfl, ha, rfl⟩
  | succ k ih =>
    intro at_ next vs ha h
    rw [rdCells] at h
    obtain ⟨⟨v, x, c⟩, hr⟩ : ∃ r, rdVal l at_ = r := ⟨_, rfl⟩
    rw [hr] at h
    simp only at h
    split at h
    · rename_i h0
      subst h0
      obtain ⟨i1, i2, i3, i4, i5⟩ := rdVal_inv hr
      obtain ⟨⟨ws, y, d⟩, hq⟩ : ∃ r, rdCells l k x = r := ⟨_, rfl⟩
      rw [hq] at h
      simp only at h
      split at h
      · rename_i h0
        subst h0
        obtain ⟨j1, j2, j3, j4, j5⟩ := ih i4 hq
        injection h with h1 h2
        injection h2 with h2 _
        subst h1 h2
        refine ⟨by rw [List.length_cons, j1], ?_, ?_, j4, ?_⟩
        · intro u hu
          rcases List.mem_cons.1 hu with rfl | hu
          · exact ⟨i1, i2⟩
          · exact j2 u hu
        · rw [List.flatMap_cons, List.length_append]; omega
        · rw [List.flatMap_cons, i5, j5, List.append_assoc]
      · rename_i h0
        injection h with _ h
        injection h with _ h
        exact absurd h h0
    · rename_i h0
      injection h with _ h
      injection h with _ h
      exact absurd h h0

theorem rdRow_enc {l t : List UInt8} {at_ : Nat} {vs : List VD} (hv : AllOk vs) (h12 : vs.length ≤ 12) (h : l.drop at_ = encRow vs ++ t) : rdRow l at_ = (vs, at_ + (encRow vs).length, 0) := by
  unfold encRow at h ⊢
  rw [List.append_assoc] at h
  unfold rdRow
  rw [rdUint_leb (by omega) h, if_pos rfl, if_neg (by omega), rdCells_enc vs hv (drop_app h), List.length_append, Nat.add_assoc]
theorem rdRow_cut {l : List UInt8} {at_ k : Nat} {vs : List VD} (hv : AllOk vs) (h12 : vs.length ≤ 12) (hk : k < (encRow vs).length) (h : l.drop at_ = (encRow vs).take k) : rdRow l at_ = ([], 0, 20) := by
  unfold encRow at h hk
  rw [List.length_append] at hk
  unfold rdRow
  by_cases hc : k < (leb vs.length).length
  · rw [List.take_append_of_le_length (by omega)] at h
    rw [rdUint_cut (by omega) hc h, if_neg (by decide)]
  · rw [List.take_append, List.take_of_length_le (by omega)] at h
    rw [rdUint_leb (by omega) h, if_pos rfl, if_neg (by omega), rdCells_cut vs hv (by omega) (drop_app h)]
theorem rdRow_inv {l : List UInt8} {at_ next : Nat} {vs : List VD} (h : rdRow l at_ = (vs, next, 0)) : vs.length ≤ 12 ∧ AllOk vs ∧ next = at_ + (encRow vs).length ∧ next ≤ l.length ∧ l.drop at_ = encRow vs ++ l.drop next := by
  unfold rdRow at h
  obtain ⟨⟨n, x, c⟩, hr⟩ : ∃ r, rdUint l at_ = r := ⟨_, rfl⟩
  rw [hr] at h
  simp only at h
  split at h
  · rename_i h0
    subst h0
    obtain ⟨i1, i2, i3, i4⟩ := rdUint_inv hr
    split at h
    · simp at h
    · obtain ⟨j1, j2, j3, j4, j5⟩ := rdCells_inv n i3 h
      refine ⟨by omega, j2, ?_, j4, ?_⟩
      · unfold encRow
        rw [List.length_append, j1]
        omega
      · unfold encRow
        rw [i4, j5, j1, List.append_assoc]
  · rename_i h0
    injection h with _ h
    injection h with _ h
    exact absurd h h0
theorem encRow_ne (vs : List VD) : encRow vs ≠ [] := by unfold encRow; intro h; exact leb_ne _ (List.append_eq_nil_iff.1 h).1
theorem allOk_valid {vs : List VD} (h : AllOk vs) : vs.all VD.valid = true := List.all_eq_true.2 fun v hv => (h v hv).1

end Go.Proofs.Ytcedenhfchcgiaa.Cd
