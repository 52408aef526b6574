/- play, walked. -/
import Derived.Test.YtldhpbmcpmebaaaLaw22c
set_option linter.unusedVariables false
set_option linter.unusedSimpArgs false
namespace Go.Proofs.Ytldhpbmcpmebaaa
open Go.RowKit

/-- A call, as data. -/
structure CallD where
  kind : Int
  file : Int
  n : Int
  bs : List UInt8
  keep : List Int

def DS.play (d : DS) (c : CallD) : DS × Int :=
  if c.kind = 1 then d.append c.file (c.bs.take 2000) else
  if c.kind = 2 then d.truncate c.file c.n else
  if c.kind = 3 then d.replace c.file (c.bs.take 2000) else
  if c.kind = 4 then d.sync c.file else
  if c.kind = 5 then (d.fail c.n, 0) else
  if c.kind = 6 then (d.crash c.keep, 0) else (d, 0)

def PlayEnd (w : World) (b : Nat) (S : Nat → Prop) (c : CallD) (r : DS × Int) (e : Ending) (w' : World) : Prop :=
  ∃ b' S', e = .returned (.tuple #[.pointer (some ⟨b', 0, none⟩), .int .i64 r.2]) ∧ DiskIn w' b' r.1 S' ∧ FootLt w' S' ∧ Stp S w w' S' ∧ (c.kind ≠ 7 → b' = b)

/-- A call's fields, as they are read. -/
structure CallV (w : World) (c : CallD) (vB vK : Value) (T : Nat → Prop) : Prop where
  bs : Rds w vB (bytesV c.bs)
  keep : Rds w vK (intsV c.keep)
  bsT : ∀ k, rdBlock vB = some k → T k
  keepT : ∀ k, rdBlock vK = some k → T k
theorem CallV.only {S T : Nat → Prop} {w w' : World} {c : CallD} {vB vK : Value} (h : CallV w c vB vK T) (ho : Only S w w') (hd : ∀ k, T k → ¬ S k) : CallV w' c vB vK T :=
  ⟨h.bs.only ho fun k hk => hd k (h.bsT k hk), h.keep.only ho fun k hk => hd k (h.keepT k hk), h.bsT, h.keepT⟩

theorem gate_play {w w0 : World} {b : Nat} {S : Nat → Prop} {c : CallD} {r : DS × Int} {e : Ending} {w' : World} (h : GateEnd w b S r e w') (h0 : Only (fun _ => False) w0 w) :
    e = .returned (.int .i64 r.2) ∧ PlayEnd w0 b S c r (.returned (.tuple #[.pointer (some ⟨b, 0, none⟩), .int .i64 r.2])) w' := by
  obtain ⟨he, S', hd, hs⟩ := h
  obtain ⟨S0, hd0, hl, hsub⟩ := hd.tight
  have h1 := Stp.onlyL h0 hs
  exact ⟨he, b, S0, rfl, hd0, hl, ⟨h1.only, fun k hk => h1.foot k (hsub k hk)⟩, fun _ => rfl⟩
theorem do_play {w w0 : World} {b : Nat} {S : Nat → Prop} {c : CallD} {d : DS} {e : Ending} {w' : World} (h : DoEnd w b S d e w') (h0 : Only (fun _ => False) w0 w) :
    e = .returned (.tuple #[]) ∧ PlayEnd w0 b S c (d, 0) (.returned (.tuple #[.pointer (some ⟨b, 0, none⟩), .int .i64 0])) w' := by
  obtain ⟨he, S', hd, hs⟩ := h
  obtain ⟨S0, hd0, hl, hsub⟩ := hd.tight
  have h1 := Stp.onlyL h0 hs
  exact ⟨he, b, S0, rfl, hd0, hl, ⟨h1.only, fun k hk => h1.foot k (hsub k hk)⟩, fun _ => rfl⟩

theorem bytesV_rds_take {w : World} {A : Option Addr} {n c : Nat} {l : List UInt8} (h : Rds w (.slice A n c) (bytesV l)) (m : Nat) (hm : m = min l.length 2000) : Rds w (.slice A m c) (bytesV (l.take 2000)) := by
  obtain ⟨A', c', e, ht⟩ := h.take
  injection e with e1 e2 e3
  subst e1 e3
  have := ht m (by rw [bytesV_length]; omega)
  have e4 : bytesV (l.take 2000) = (bytesV l).take m := by
    rw [bytesV_take, hm]
    by_cases h : l.length ≤ 2000
    · rw [Nat.min_eq_left h, List.take_of_length_le (by rw [bytesV_length]; exact h), List.take_of_length_le (by rw [bytesV_length]; exact Nat.le_refl _)]
    · rw [Nat.min_eq_right (by omega)]
  rw [e4]
  exact this

set_option maxHeartbeats 400000 in
theorem play_1 {w : World} {b : Nat} {d : DS} {S T : Nat → Prop} (h : DiskIn w b d S) (hlt : FootLt w S) (c : CallD) (vB vK : Value) (hc : CallV w c vB vK T) (hT : ∀ k, T k → ¬ S k) (hk : c.kind = 1) :
    Calls Try.prog 34 #[.pointer (some ⟨b, 0, none⟩), .agg #[.int .i64 c.kind, .int .i64 c.file, .int .i64 c.n, vB, vK]] w (PlayEnd w b S c (d.play c)) := by
  have e1 : d.play c = d.append c.file (c.bs.take 2000) := by unfold DS.play; rw [if_pos hk]
  rw [e1]
  have ho : Only (fun _ => False) w (w.alloc (.cells #[.int .i64 c.kind, .int .i64 c.file, .int .i64 c.n, vB, vK] 51)) := (Only.refl _ w).alloc _
  obtain ⟨A, n, cp, rfl⟩ := hc.bs.form
  obtain ⟨A2, n2, cp2, rfl⟩ := hc.keep.form
  have hn : n = c.bs.length := by obtain ⟨A, c, e, _⟩ := hc.bs; injection e with _ e _; rw [e, bytesV_length]
  have hcap : n ≤ cp := by obtain ⟨A, c, e, h1, _⟩ := hc.bs; injection e with _ e e3; omega
  obtain ⟨m, hm⟩ : ∃ m, m = min c.bs.length 2000 := ⟨_, rfl⟩
  have hI : DiskIn _ b d S := ⟨h.1, by obtain ⟨_, V, hA, hS⟩ := h; exact ⟨V, hA.only ho (fun _ _ => id), hS⟩⟩
  have hL : FootLt _ S := fun k hk => Nat.lt_of_lt_of_le (hlt k hk) ho.size
  have hmin : (if (2000 : Int) < (n : Int) then (2000 : Int) else n) = (m : Int) := by rw [hn, hm]; split <;> omega
  have hmc : m ≤ cp := by omega
  have HB : Hid (Rds _ (.slice A m cp) (bytesV (c.bs.take 2000)) ∧ (∀ k, rdBlock (.slice A m cp) = some k → ¬ S k) ∧ (c.bs.take 2000).length ≤ lim46) := ⟨bytesV_rds_take (hc.bs.only ho (fun _ _ => id)) m hm, fun k hk => hT k (hc.bsT k (rdBlock_le (by omega) hk)), by rw [List.length_take]; unfold lim46; omega⟩
  have HK : Hid (Rds _ (.slice A2 n2 cp2) (intsV c.keep) ∧ (∀ k, rdBlock (.slice A2 n2 cp2) = some k → ¬ S k)) := ⟨hc.keep.only ho (fun _ _ => id), fun k hk => hT k (hc.keepT k hk)⟩
  have hA := hide (append_any hI hL c.file _ (c.bs.take 2000) HB.out.1 HB.out.2.1 HB.out.2.2)
  rw [hk] at hA ho ⊢
  clear e1 hk
  have HO := hide ho
  have HH := hide h
  have HL := hide hlt
  clear h hlt hc hT ho hn hcap hm hI hL HB HK
  go_enter Try.func34, Try.ntmps34
  go_wp2_with (go_at_call 21; refine hA.out.mono ?_; rintro e w2 g1; obtain ⟨rfl, g2⟩ := gate_play (c := c) g1 HO.out; have G := hide g2; clear g1 g2)
  go_ret2
  exact G

set_option maxHeartbeats 400000 in
theorem play_2 {w : World} {b : Nat} {d : DS} {S T : Nat → Prop} (h : DiskIn w b d S) (hlt : FootLt w S) (c : CallD) (vB vK : Value) (hc : CallV w c vB vK T) (hT : ∀ k, T k → ¬ S k) (hk : c.kind = 2) :
    Calls Try.prog 34 #[.pointer (some ⟨b, 0, none⟩), .agg #[.int .i64 c.kind, .int .i64 c.file, .int .i64 c.n, vB, vK]] w (PlayEnd w b S c (d.play c)) := by
  have e1 : d.play c = d.truncate c.file c.n := by unfold DS.play; rw [if_neg (by omega)]; rw [if_pos hk]
  rw [e1]
  have ho : Only (fun _ => False) w (w.alloc (.cells #[.int .i64 c.kind, .int .i64 c.file, .int .i64 c.n, vB, vK] 51)) := (Only.refl _ w).alloc _
  obtain ⟨A, n, cp, rfl⟩ := hc.bs.form
  obtain ⟨A2, n2, cp2, rfl⟩ := hc.keep.form
  have hn : n = c.bs.length := by obtain ⟨A, c, e, _⟩ := hc.bs; injection e with _ e _; rw [e, bytesV_length]
  have hcap : n ≤ cp := by obtain ⟨A, c, e, h1, _⟩ := hc.bs; injection e with _ e e3; omega
  obtain ⟨m, hm⟩ : ∃ m, m = min c.bs.length 2000 := ⟨_, rfl⟩
  have hI : DiskIn _ b d S := ⟨h.1, by obtain ⟨_, V, hA, hS⟩ := h; exact ⟨V, hA.only ho (fun _ _ => id), hS⟩⟩
  have hL : FootLt _ S := fun k hk => Nat.lt_of_lt_of_le (hlt k hk) ho.size
  have hmin : (if (2000 : Int) < (n : Int) then (2000 : Int) else n) = (m : Int) := by rw [hn, hm]; split <;> omega
  have hmc : m ≤ cp := by omega
  have HB : Hid (Rds _ (.slice A m cp) (bytesV (c.bs.take 2000)) ∧ (∀ k, rdBlock (.slice A m cp) = some k → ¬ S k) ∧ (c.bs.take 2000).length ≤ lim46) := ⟨bytesV_rds_take (hc.bs.only ho (fun _ _ => id)) m hm, fun k hk => hT k (hc.bsT k (rdBlock_le (by omega) hk)), by rw [List.length_take]; unfold lim46; omega⟩
  have HK : Hid (Rds _ (.slice A2 n2 cp2) (intsV c.keep) ∧ (∀ k, rdBlock (.slice A2 n2 cp2) = some k → ¬ S k)) := ⟨hc.keep.only ho (fun _ _ => id), fun k hk => hT k (hc.keepT k hk)⟩
  have hA := hide (truncate_any hI hL c.file c.n)
  rw [hk] at hA ho ⊢
  clear e1 hk
  have HO := hide ho
  have HH := hide h
  have HL := hide hlt
  clear h hlt hc hT ho hn hcap hm hI hL HB HK
  go_enter Try.func34, Try.ntmps34
  go_wp2_with (go_at_call 62; refine hA.out.mono ?_; rintro e w2 g1; obtain ⟨rfl, g2⟩ := gate_play (c := c) g1 HO.out; have G := hide g2; clear g1 g2)
  go_ret2
  exact G

set_option maxHeartbeats 400000 in
theorem play_3 {w : World} {b : Nat} {d : DS} {S T : Nat → Prop} (h : DiskIn w b d S) (hlt : FootLt w S) (c : CallD) (vB vK : Value) (hc : CallV w c vB vK T) (hT : ∀ k, T k → ¬ S k) (hk : c.kind = 3) :
    Calls Try.prog 34 #[.pointer (some ⟨b, 0, none⟩), .agg #[.int .i64 c.kind, .int .i64 c.file, .int .i64 c.n, vB, vK]] w (PlayEnd w b S c (d.play c)) := by
  have e1 : d.play c = d.replace c.file (c.bs.take 2000) := by unfold DS.play; rw [if_neg (by omega)]; rw [if_neg (by omega)]; rw [if_pos hk]
  rw [e1]
  have ho : Only (fun _ => False) w (w.alloc (.cells #[.int .i64 c.kind, .int .i64 c.file, .int .i64 c.n, vB, vK] 51)) := (Only.refl _ w).alloc _
  obtain ⟨A, n, cp, rfl⟩ := hc.bs.form
  obtain ⟨A2, n2, cp2, rfl⟩ := hc.keep.form
  have hn : n = c.bs.length := by obtain ⟨A, c, e, _⟩ := hc.bs; injection e with _ e _; rw [e, bytesV_length]
  have hcap : n ≤ cp := by obtain ⟨A, c, e, h1, _⟩ := hc.bs; injection e with _ e e3; omega
  obtain ⟨m, hm⟩ : ∃ m, m = min c.bs.length 2000 := ⟨_, rfl⟩
  have hI : DiskIn _ b d S := ⟨h.1, by obtain ⟨_, V, hA, hS⟩ := h; exact ⟨V, hA.only ho (fun _ _ => id), hS⟩⟩
  have hL : FootLt _ S := fun k hk => Nat.lt_of_lt_of_le (hlt k hk) ho.size
  have hmin : (if (2000 : Int) < (n : Int) then (2000 : Int) else n) = (m : Int) := by rw [hn, hm]; split <;> omega
  have hmc : m ≤ cp := by omega
  have HB : Hid (Rds _ (.slice A m cp) (bytesV (c.bs.take 2000)) ∧ (∀ k, rdBlock (.slice A m cp) = some k → ¬ S k) ∧ (c.bs.take 2000).length ≤ lim46) := ⟨bytesV_rds_take (hc.bs.only ho (fun _ _ => id)) m hm, fun k hk => hT k (hc.bsT k (rdBlock_le (by omega) hk)), by rw [List.length_take]; unfold lim46; omega⟩
  have HK : Hid (Rds _ (.slice A2 n2 cp2) (intsV c.keep) ∧ (∀ k, rdBlock (.slice A2 n2 cp2) = some k → ¬ S k)) := ⟨hc.keep.only ho (fun _ _ => id), fun k hk => hT k (hc.keepT k hk)⟩
  have hA := hide (replace_any hI hL c.file _ (c.bs.take 2000) HB.out.1 HB.out.2.1 HB.out.2.2)
  rw [hk] at hA ho ⊢
  clear e1 hk
  have HO := hide ho
  have HH := hide h
  have HL := hide hlt
  clear h hlt hc hT ho hn hcap hm hI hL HB HK
  go_enter Try.func34, Try.ntmps34
  go_wp2_with (go_at_call 18; refine hA.out.mono ?_; rintro e w2 g1; obtain ⟨rfl, g2⟩ := gate_play (c := c) g1 HO.out; have G := hide g2; clear g1 g2)
  go_ret2
  exact G

set_option maxHeartbeats 400000 in
theorem play_4 {w : World} {b : Nat} {d : DS} {S T : Nat → Prop} (h : DiskIn w b d S) (hlt : FootLt w S) (c : CallD) (vB vK : Value) (hc : CallV w c vB vK T) (hT : ∀ k, T k → ¬ S k) (hk : c.kind = 4) :
    Calls Try.prog 34 #[.pointer (some ⟨b, 0, none⟩), .agg #[.int .i64 c.kind, .int .i64 c.file, .int .i64 c.n, vB, vK]] w (PlayEnd w b S c (d.play c)) := by
  have e1 : d.play c = d.sync c.file := by unfold DS.play; rw [if_neg (by omega)]; rw [if_neg (by omega)]; rw [if_neg (by omega)]; rw [if_pos hk]
  rw [e1]
  have ho : Only (fun _ => False) w (w.alloc (.cells #[.int .i64 c.kind, .int .i64 c.file, .int .i64 c.n, vB, vK] 51)) := (Only.refl _ w).alloc _
  obtain ⟨A, n, cp, rfl⟩ := hc.bs.form
  obtain ⟨A2, n2, cp2, rfl⟩ := hc.keep.form
  have hn : n = c.bs.length := by obtain ⟨A, c, e, _⟩ := hc.bs; injection e with _ e _; rw [e, bytesV_length]
  have hcap : n ≤ cp := by obtain ⟨A, c, e, h1, _⟩ := hc.bs; injection e with _ e e3; omega
  obtain ⟨m, hm⟩ : ∃ m, m = min c.bs.length 2000 := ⟨_, rfl⟩
  have hI : DiskIn _ b d S := ⟨h.1, by obtain ⟨_, V, hA, hS⟩ := h; exact ⟨V, hA.only ho (fun _ _ => id), hS⟩⟩
  have hL : FootLt _ S := fun k hk => Nat.lt_of_lt_of_le (hlt k hk) ho.size
  have hmin : (if (2000 : Int) < (n : Int) then (2000 : Int) else n) = (m : Int) := by rw [hn, hm]; split <;> omega
  have hmc : m ≤ cp := by omega
  have HB : Hid (Rds _ (.slice A m cp) (bytesV (c.bs.take 2000)) ∧ (∀ k, rdBlock (.slice A m cp) = some k → ¬ S k) ∧ (c.bs.take 2000).length ≤ lim46) := ⟨bytesV_rds_take (hc.bs.only ho (fun _ _ => id)) m hm, fun k hk => hT k (hc.bsT k (rdBlock_le (by omega) hk)), by rw [List.length_take]; unfold lim46; omega⟩
  have HK : Hid (Rds _ (.slice A2 n2 cp2) (intsV c.keep) ∧ (∀ k, rdBlock (.slice A2 n2 cp2) = some k → ¬ S k)) := ⟨hc.keep.only ho (fun _ _ => id), fun k hk => hT k (hc.keepT k hk)⟩
  have hA := hide (sync_any hI c.file)
  rw [hk] at hA ho ⊢
  clear e1 hk
  have HO := hide ho
  have HH := hide h
  have HL := hide hlt
  clear h hlt hc hT ho hn hcap hm hI hL HB HK
  go_enter Try.func34, Try.ntmps34
  go_wp2_with (go_at_call 37; refine hA.out.mono ?_; rintro e w2 g1; obtain ⟨rfl, g2⟩ := gate_play (c := c) g1 HO.out; have G := hide g2; clear g1 g2)
  go_ret2
  exact G

theorem fail_in {w : World} {b : Nat} {d : DS} {S : Nat → Prop} (h : DiskIn w b d S) (n : Int) (hn : n ≤ 9223372036854775807) : Calls Try.prog 38 #[.pointer (some ⟨b, 0, none⟩), .int .i64 n] w (DoEnd w b S (d.fail n)) := by
  obtain ⟨hok, V, hA, hS⟩ := h
  refine (fail_any hA n).mono ?_
  rintro e w' ⟨rfl, hD, hO⟩
  refine ⟨rfl, dfoot b V, ⟨?_, V, hD, fun _ h => h⟩, hO.mono fun k _ hk => hS k (.inl hk), fun k hk => .inl (hS k hk)⟩
  unfold DS.fail
  split
  · exact hok
  · exact ⟨hok.room, hok.used, hok.syn, by show n.toNat ≤ _; omega⟩

set_option maxHeartbeats 400000 in
theorem play_5 {w : World} {b : Nat} {d : DS} {S T : Nat → Prop} (h : DiskIn w b d S) (hlt : FootLt w S) (c : CallD) (vB vK : Value) (hc : CallV w c vB vK T) (hT : ∀ k, T k → ¬ S k) (hk : c.kind = 5) (hcn : c.n ≤ 9223372036854775807) :
    Calls Try.prog 34 #[.pointer (some ⟨b, 0, none⟩), .agg #[.int .i64 c.kind, .int .i64 c.file, .int .i64 c.n, vB, vK]] w (PlayEnd w b S c (d.play c)) := by
  have e1 : d.play c = (d.fail c.n, 0) := by unfold DS.play; rw [if_neg (by omega)]; rw [if_neg (by omega)]; rw [if_neg (by omega)]; rw [if_neg (by omega)]; rw [if_pos hk]
  rw [e1]
  have ho : Only (fun _ => False) w (w.alloc (.cells #[.int .i64 c.kind, .int .i64 c.file, .int .i64 c.n, vB, vK] 51)) := (Only.refl _ w).alloc _
  obtain ⟨A, n, cp, rfl⟩ := hc.bs.form
  obtain ⟨A2, n2, cp2, rfl⟩ := hc.keep.form
  have hn : n = c.bs.length := by obtain ⟨A, c, e, _⟩ := hc.bs; injection e with _ e _; rw [e, bytesV_length]
  have hcap : n ≤ cp := by obtain ⟨A, c, e, h1, _⟩ := hc.bs; injection e with _ e e3; omega
  obtain ⟨m, hm⟩ : ∃ m, m = min c.bs.length 2000 := ⟨_, rfl⟩
  have hI : DiskIn _ b d S := ⟨h.1, by obtain ⟨_, V, hA, hS⟩ := h; exact ⟨V, hA.only ho (fun _ _ => id), hS⟩⟩
  have hL : FootLt _ S := fun k hk => Nat.lt_of_lt_of_le (hlt k hk) ho.size
  have hmin : (if (2000 : Int) < (n : Int) then (2000 : Int) else n) = (m : Int) := by rw [hn, hm]; split <;> omega
  have hmc : m ≤ cp := by omega
  have HB : Hid (Rds _ (.slice A m cp) (bytesV (c.bs.take 2000)) ∧ (∀ k, rdBlock (.slice A m cp) = some k → ¬ S k) ∧ (c.bs.take 2000).length ≤ lim46) := ⟨bytesV_rds_take (hc.bs.only ho (fun _ _ => id)) m hm, fun k hk => hT k (hc.bsT k (rdBlock_le (by omega) hk)), by rw [List.length_take]; unfold lim46; omega⟩
  have HK : Hid (Rds _ (.slice A2 n2 cp2) (intsV c.keep) ∧ (∀ k, rdBlock (.slice A2 n2 cp2) = some k → ¬ S k)) := ⟨hc.keep.only ho (fun _ _ => id), fun k hk => hT k (hc.keepT k hk)⟩
  have hA := hide (fail_in hI c.n hcn)
  rw [hk] at hA ho ⊢
  clear e1 hk hcn
  have HO := hide ho
  have HH := hide h
  have HL := hide hlt
  clear h hlt hc hT ho hn hcap hm hI hL HB HK
  go_enter Try.func34, Try.ntmps34
  go_wp2_with (go_at_call 38; refine hA.out.mono ?_; rintro e w2 g1; obtain ⟨rfl, g2⟩ := do_play (c := c) g1 HO.out; have G := hide g2; clear g1 g2)
  go_ret2
  exact G

set_option maxHeartbeats 400000 in
theorem play_6 {w : World} {b : Nat} {d : DS} {S T : Nat → Prop} (h : DiskIn w b d S) (hlt : FootLt w S) (c : CallD) (vB vK : Value) (hc : CallV w c vB vK T) (hT : ∀ k, T k → ¬ S k) (hk : c.kind = 6) :
    Calls Try.prog 34 #[.pointer (some ⟨b, 0, none⟩), .agg #[.int .i64 c.kind, .int .i64 c.file, .int .i64 c.n, vB, vK]] w (PlayEnd w b S c (d.play c)) := by
  have e1 : d.play c = (d.crash c.keep, 0) := by unfold DS.play; rw [if_neg (by omega)]; rw [if_neg (by omega)]; rw [if_neg (by omega)]; rw [if_neg (by omega)]; rw [if_neg (by omega)]; rw [if_pos hk]
  rw [e1]
  have ho : Only (fun _ => False) w (w.alloc (.cells #[.int .i64 c.kind, .int .i64 c.file, .int .i64 c.n, vB, vK] 51)) := (Only.refl _ w).alloc _
  obtain ⟨A, n, cp, rfl⟩ := hc.bs.form
  obtain ⟨A2, n2, cp2, rfl⟩ := hc.keep.form
  have hn : n = c.bs.length := by obtain ⟨A, c, e, _⟩ := hc.bs; injection e with _ e _; rw [e, bytesV_length]
  have hcap : n ≤ cp := by obtain ⟨A, c, e, h1, _⟩ := hc.bs; injection e with _ e e3; omega
  obtain ⟨m, hm⟩ : ∃ m, m = min c.bs.length 2000 := ⟨_, rfl⟩
  have hI : DiskIn _ b d S := ⟨h.1, by obtain ⟨_, V, hA, hS⟩ := h; exact ⟨V, hA.only ho (fun _ _ => id), hS⟩⟩
  have hL : FootLt _ S := fun k hk => Nat.lt_of_lt_of_le (hlt k hk) ho.size
  have hmin : (if (2000 : Int) < (n : Int) then (2000 : Int) else n) = (m : Int) := by rw [hn, hm]; split <;> omega
  have hmc : m ≤ cp := by omega
  have HB : Hid (Rds _ (.slice A m cp) (bytesV (c.bs.take 2000)) ∧ (∀ k, rdBlock (.slice A m cp) = some k → ¬ S k) ∧ (c.bs.take 2000).length ≤ lim46) := ⟨bytesV_rds_take (hc.bs.only ho (fun _ _ => id)) m hm, fun k hk => hT k (hc.bsT k (rdBlock_le (by omega) hk)), by rw [List.length_take]; unfold lim46; omega⟩
  have HK : Hid (Rds _ (.slice A2 n2 cp2) (intsV c.keep) ∧ (∀ k, rdBlock (.slice A2 n2 cp2) = some k → ¬ S k)) := ⟨hc.keep.only ho (fun _ _ => id), fun k hk => hT k (hc.keepT k hk)⟩
  have hA := hide (crash_any hI _ c.keep HK.out.1 HK.out.2)
  rw [hk] at hA ho ⊢
  clear e1 hk
  have HO := hide ho
  have HH := hide h
  have HL := hide hlt
  clear h hlt hc hT ho hn hcap hm hI hL HB HK
  go_enter Try.func34, Try.ntmps34
  go_wp2_with (go_at_call 36; refine hA.out.mono ?_; rintro e w2 g1; obtain ⟨rfl, g2⟩ := do_play (c := c) g1 HO.out; have G := hide g2; clear g1 g2)
  go_ret2
  exact G

set_option maxHeartbeats 400000 in
theorem play_7 {w : World} {b : Nat} {d : DS} {S T : Nat → Prop} (h : DiskIn w b d S) (hlt : FootLt w S) (c : CallD) (vB vK : Value) (hc : CallV w c vB vK T) (hT : ∀ k, T k → ¬ S k) (hk : c.kind = 7) :
    Calls Try.prog 34 #[.pointer (some ⟨b, 0, none⟩), .agg #[.int .i64 c.kind, .int .i64 c.file, .int .i64 c.n, vB, vK]] w (PlayEnd w b S c (d.play c)) := by
  have e1 : d.play c = (d, 0) := by unfold DS.play; rw [if_neg (by omega), if_neg (by omega), if_neg (by omega), if_neg (by omega), if_neg (by omega), if_neg (by omega)]
  rw [e1]
  have ho : Only (fun _ => False) w (w.alloc (.cells #[.int .i64 c.kind, .int .i64 c.file, .int .i64 c.n, vB, vK] 51)) := (Only.refl _ w).alloc _
  obtain ⟨A, n, cp, rfl⟩ := hc.bs.form
  obtain ⟨A2, n2, cp2, rfl⟩ := hc.keep.form
  have hn : n = c.bs.length := by obtain ⟨A, c, e, _⟩ := hc.bs; injection e with _ e _; rw [e, bytesV_length]
  have hcap : n ≤ cp := by obtain ⟨A, c, e, h1, _⟩ := hc.bs; injection e with _ e e3; omega
  obtain ⟨m, hm⟩ : ∃ m, m = min c.bs.length 2000 := ⟨_, rfl⟩
  have hI : DiskIn _ b d S := ⟨h.1, by obtain ⟨_, V, hA, hS⟩ := h; exact ⟨V, hA.only ho (fun _ _ => id), hS⟩⟩
  have hL : FootLt _ S := fun k hk => Nat.lt_of_lt_of_le (hlt k hk) ho.size
  have hmin : (if (2000 : Int) < (n : Int) then (2000 : Int) else n) = (m : Int) := by rw [hn, hm]; split <;> omega
  have hmc : m ≤ cp := by omega
  have HB : Hid (Rds _ (.slice A m cp) (bytesV (c.bs.take 2000)) ∧ (∀ k, rdBlock (.slice A m cp) = some k → ¬ S k) ∧ (c.bs.take 2000).length ≤ lim46) := ⟨bytesV_rds_take (hc.bs.only ho (fun _ _ => id)) m hm, fun k hk => hT k (hc.bsT k (rdBlock_le (by omega) hk)), by rw [List.length_take]; unfold lim46; omega⟩
  have HK : Hid (Rds _ (.slice A2 n2 cp2) (intsV c.keep) ∧ (∀ k, rdBlock (.slice A2 n2 cp2) = some k → ¬ S k)) := ⟨hc.keep.only ho (fun _ _ => id), fun k hk => hT k (hc.keepT k hk)⟩
  have hA := hide (copy_any hI)
  have HE : Hid (∀ e w', CopyEnd (w.alloc (.cells #[.int .i64 c.kind, .int .i64 c.file, .int .i64 c.n, .slice A n cp, .slice A2 n2 cp2] 51)) d e w' → ∃ p, e = .returned (.pointer (some p)) ∧ PlayEnd w b S c (d, 0) (.returned (.tuple #[.pointer (some p), .int .i64 0])) w') := fun e w' ⟨S', he, hd, hs, hO⟩ => by
    obtain ⟨S0, hd0, hl, hsub⟩ := hd.tight
    exact ⟨_, he, _, S0, rfl, hd0, hl, ⟨(ho.trans' hO).mono fun _ _ h => h.elim, fun k hk => .inr (Nat.le_trans ho.size (hs k (hsub k hk)))⟩, fun h => absurd hk h⟩
  rw [hk] at hA ho HE ⊢
  clear e1 hk
  have HO := hide ho
  have HH := hide h
  have HL := hide hlt
  clear h hlt hc hT ho hn hcap hm hI hL HB HK
  go_enter Try.func34, Try.ntmps34
  go_wp2_with (go_at_call 39; refine hA.out.mono ?_; rintro e w2 g1; obtain ⟨p, rfl, g2⟩ := HE.out _ _ g1; have G := hide g2; clear g1 g2)
  go_ret2
  exact G

set_option maxHeartbeats 400000 in
theorem play_8 {w : World} {b : Nat} {d : DS} {S T : Nat → Prop} (h : DiskIn w b d S) (hlt : FootLt w S) (c : CallD) (vB vK : Value) (hc : CallV w c vB vK T) (hT : ∀ k, T k → ¬ S k) (hk : c.kind < 1 ∨ 7 < c.kind) :
    Calls Try.prog 34 #[.pointer (some ⟨b, 0, none⟩), .agg #[.int .i64 c.kind, .int .i64 c.file, .int .i64 c.n, vB, vK]] w (PlayEnd w b S c (d.play c)) := by
  have e1 : d.play c = (d, 0) := by unfold DS.play; rw [if_neg (by omega), if_neg (by omega), if_neg (by omega), if_neg (by omega), if_neg (by omega), if_neg (by omega)]
  rw [e1]
  have ho : Only (fun _ => False) w (w.alloc (.cells #[.int .i64 c.kind, .int .i64 c.file, .int .i64 c.n, vB, vK] 51)) := (Only.refl _ w).alloc _
  obtain ⟨A, n, cp, rfl⟩ := hc.bs.form
  obtain ⟨A2, n2, cp2, rfl⟩ := hc.keep.form
  have hn : n = c.bs.length := by obtain ⟨A, c, e, _⟩ := hc.bs; injection e with _ e _; rw [e, bytesV_length]
  have hcap : n ≤ cp := by obtain ⟨A, c, e, h1, _⟩ := hc.bs; injection e with _ e e3; omega
  obtain ⟨m, hm⟩ : ∃ m, m = min c.bs.length 2000 := ⟨_, rfl⟩
  have hI : DiskIn _ b d S := ⟨h.1, by obtain ⟨_, V, hA, hS⟩ := h; exact ⟨V, hA.only ho (fun _ _ => id), hS⟩⟩
  have hL : FootLt _ S := fun k hk => Nat.lt_of_lt_of_le (hlt k hk) ho.size
  have hmin : (if (2000 : Int) < (n : Int) then (2000 : Int) else n) = (m : Int) := by rw [hn, hm]; split <;> omega
  have hmc : m ≤ cp := by omega
  have HB : Hid (Rds _ (.slice A m cp) (bytesV (c.bs.take 2000)) ∧ (∀ k, rdBlock (.slice A m cp) = some k → ¬ S k) ∧ (c.bs.take 2000).length ≤ lim46) := ⟨bytesV_rds_take (hc.bs.only ho (fun _ _ => id)) m hm, fun k hk => hT k (hc.bsT k (rdBlock_le (by omega) hk)), by rw [List.length_take]; unfold lim46; omega⟩
  have HK : Hid (Rds _ (.slice A2 n2 cp2) (intsV c.keep) ∧ (∀ k, rdBlock (.slice A2 n2 cp2) = some k → ¬ S k)) := ⟨hc.keep.only ho (fun _ _ => id), fun k hk => hT k (hc.keepT k hk)⟩
  have HG : Hid (PlayEnd w b S c (d, 0) (.returned (.tuple #[.pointer (some ⟨b, 0, none⟩), .int .i64 0])) (w.alloc (.cells #[.int .i64 c.kind, .int .i64 c.file, .int .i64 c.n, .slice A n cp, .slice A2 n2 cp2] 51))) := by
    obtain ⟨S0, hd0, hl, hsub⟩ := hI.tight
    exact ⟨b, S0, rfl, hd0, hl, ⟨ho.mono fun _ _ h => h.elim, fun k hk => .inl (hsub k hk)⟩, fun _ => rfl⟩
  have q1 : (c.kind == 1) = false := by simp; omega
  have q2 : (c.kind == 2) = false := by simp; omega
  have q3 : (c.kind == 3) = false := by simp; omega
  have q4 : (c.kind == 4) = false := by simp; omega
  have q5 : (c.kind == 5) = false := by simp; omega
  have q6 : (c.kind == 6) = false := by simp; omega
  have q7 : (c.kind == 7) = false := by simp; omega
  clear e1 hk
  have HO := hide ho
  have HH := hide h
  have HL := hide hlt
  clear h hlt hc hT ho hn hcap hm hI hL HB HK
  go_enter Try.func34, Try.ntmps34
  go_wp2
  go_ret2
  exact HG

theorem play_any {w : World} {b : Nat} {d : DS} {S T : Nat → Prop} (h : DiskIn w b d S) (hlt : FootLt w S) (c : CallD) (hcn : c.n ≤ 9223372036854775807) (vB vK : Value) (hc : CallV w c vB vK T) (hT : ∀ k, T k → ¬ S k) :
    Calls Try.prog 34 #[.pointer (some ⟨b, 0, none⟩), .agg #[.int .i64 c.kind, .int .i64 c.file, .int .i64 c.n, vB, vK]] w (PlayEnd w b S c (d.play c)) := by
  by_cases h8 : c.kind < 1 ∨ 7 < c.kind
  · exact play_8 h hlt c vB vK hc hT h8
  · have : c.kind = 1 ∨ c.kind = 2 ∨ c.kind = 3 ∨ c.kind = 4 ∨ c.kind = 5 ∨ c.kind = 6 ∨ c.kind = 7 := by omega
    rcases this with k | k | k | k | k | k | k
    · exact play_1 h hlt c vB vK hc hT k
    · exact play_2 h hlt c vB vK hc hT k
    · exact play_3 h hlt c vB vK hc hT k
    · exact play_4 h hlt c vB vK hc hT k
    · exact play_5 h hlt c vB vK hc hT k hcn
    · exact play_6 h hlt c vB vK hc hT k
    · exact play_7 h hlt c vB vK hc hT k

end Go.Proofs.Ytldhpbmcpmebaaa
