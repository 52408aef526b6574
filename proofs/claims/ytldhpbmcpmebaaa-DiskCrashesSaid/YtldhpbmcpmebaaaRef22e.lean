/- model, walked. -/
import Derived.Test.YtldhpbmcpmebaaaRef22c
import Derived.Test.YtldhpbmcpmebaaaRef22d
set_option linter.unusedVariables false
set_option linter.unusedSimpArgs false
namespace Go.Proofs.Ytldhpbmcpmebaaa
open Go.RowKit

/-- The reference's disk d lies at block b within the blocks S. -/
structure RHeld (w : World) (b : Nat) (d : DS) (S : Nat → Prop) : Prop where
  at_ : ∃ V, RefAt w b d V ∧ ∀ k, rfoot b V k → S k
  lt : ∀ k, S k → k < w.heap.size
theorem RHeld.only {w w' : World} {b : Nat} {d : DS} {S U : Nat → Prop} (h : RHeld w b d S) (ho : Only U w w') (hd : ∀ k, S k → ¬ U k) : RHeld w' b d S := by
  obtain ⟨⟨V, hA, hS⟩, hl⟩ := h
  exact ⟨⟨V, hA.only ho fun k hk => hd k (hS k hk), hS⟩, fun k hk => Nat.lt_of_lt_of_le (hl k hk) ho.size⟩
def ModelEnd (w : World) (S : Nat → Prop) (r : DS × Int) (e : Ending) (w' : World) : Prop :=
  ∃ b' S', e = .returned (.tuple #[.pointer (some ⟨b', 0, none⟩), .int .i64 r.2]) ∧ RHeld w' b' r.1 S' ∧ Stp S w w' S'
theorem ref_model {w0 w w' : World} {b : Nat} {V : Nat → Value} {S : Nat → Prop} {r : DS × Int} (hA : ∃ d, RefAt w b d V) (h : RefEnd w b V r.1 w') (hS : ∀ k, rfoot b V k → S k) (h0 : Only (fun _ => False) w0 w) : ModelEnd w0 S r (.returned (.tuple #[.pointer (some ⟨b, 0, none⟩), .int .i64 r.2])) w' := by
  obtain ⟨V', h1, h2, h3⟩ := h
  refine ⟨b, rfoot b V', rfl, ⟨⟨V', h1, fun _ h => h⟩, fun k hk => h1.lt hk⟩, (h0.mono fun _ _ h => h.elim).trans' (h3.mono fun k _ hk => hS k (.inl hk)), fun k hk => ?_⟩
  rcases h2 k hk with h | h
  · exact .inl (hS k h)
  · exact .inr (Nat.le_trans h0.size h)
theorem ref_crash {w : World} {b : Nat} {d : DS} {V : Nat → Value} (h : RefAt w b d V) (hok : d.Ok) (x : Value) (keep : List Int) (hx : Rds w x (intsV keep)) (hxb : rdBlock x ≠ some b) :
    Calls Try.prog 74 #[.pointer (some ⟨b, 0, none⟩), x] w fun e w' => e = .returned (.tuple #[]) ∧ RefEnd w b V (d.crash keep) w' := by
  obtain ⟨A, c, rfl, hle, _, hnil, hsp, hc⟩ := hx
  refine ref_crash_at h hok A _ c keep (intsV_length keep) ?_
  intro j hj
  cases A with
  | none =>
    have := hnil rfl
    rw [intsV_length] at hle
    omega
  | some a =>
    have h1 := hsp a rfl (by rw [intsV_length]; omega)
    have h2 := hc a rfl j _ (intsV_get keep j hj)
    rw [addr_eta a h1] at h2
    obtain ⟨ab, ao, s⟩ := a
    simp only at h1
    subst h1
    refine ⟨ab, ao, rfl, fun e => hxb (by subst e; exact if_neg (by rw [intsV_length]; omega)), ?_⟩
    rw [h2, List.getD_eq_getElem?_getD, List.getElem?_eq_getElem hj]
    rfl

set_option maxHeartbeats 400000 in
theorem model_1 {w : World} {b : Nat} {d : DS} {S T : Nat → Prop} (h : RHeld w b d S) (hok : d.Ok) (c : CallD) (vB vK : Value) (hc : CallV w c vB vK T) (hT : ∀ k, T k → ¬ S k) (hk : c.kind = 1) :
    Calls Try.prog 45 #[.pointer (some ⟨b, 0, none⟩), .agg #[.int .i64 c.kind, .int .i64 c.file, .int .i64 c.n, vB, vK]] w (ModelEnd w S (d.play c)) := by
  obtain ⟨⟨V, hI0, hS⟩, hl⟩ := h
  have e1 : d.play c = d.append c.file (c.bs.take 2000) := by unfold DS.play; rw [if_pos hk]
  rw [e1]
  have ho : Only (fun _ => False) w (w.alloc (.cells #[.int .i64 c.kind, .int .i64 c.file, .int .i64 c.n, vB, vK] 51)) := (Only.refl _ w).alloc _
  obtain ⟨A, n, cp, rfl⟩ := hc.bs.form
  obtain ⟨A2, n2, cp2, rfl⟩ := hc.keep.form
  have hn : n = c.bs.length := by obtain ⟨A, c, e, _⟩ := hc.bs; injection e with _ e _; rw [e, bytesV_length]
  have hcap : n ≤ cp := by obtain ⟨A, c, e, h1, _⟩ := hc.bs; injection e with _ e e3; omega
  obtain ⟨m, hm⟩ : ∃ m, m = min c.bs.length 2000 := ⟨_, rfl⟩
  have hI := hI0.grow ho
  have hmin : (if (2000 : Int) < (n : Int) then (2000 : Int) else n) = (m : Int) := by rw [hn, hm]; split <;> omega
  have hmc : m ≤ cp := by omega
  have HB : Hid (Rds _ (.slice A m cp) (bytesV (c.bs.take 2000)) ∧ rdBlock (.slice A m cp) ≠ some b ∧ (c.bs.take 2000).length ≤ lim46) := ⟨bytesV_rds_take (hc.bs.only ho (fun _ _ => id)) m hm, fun e => hT b (hc.bsT b (rdBlock_le (by omega) e)) (hS b (.inl rfl)), by rw [List.length_take]; unfold lim46; omega⟩
  have HK : Hid (Rds _ (.slice A2 n2 cp2) (intsV c.keep) ∧ rdBlock (.slice A2 n2 cp2) ≠ some b) := ⟨hc.keep.only ho (fun _ _ => id), fun e => hT b (hc.keepT b e) (hS b (.inl rfl))⟩
  have hA := hide (ref_append hI hok c.file _ (c.bs.take 2000) HB.out.1 HB.out.2.1 HB.out.2.2)
  have HE := hide (fun w2 (g : RefEnd _ b V (d.append c.file (c.bs.take 2000)).1 w2) => ref_model ⟨_, hI⟩ g hS ho)
  rw [hk] at hA HE ho ⊢
  clear e1 hk
  clear hc hT ho hn hcap hm hI HB HK hI0 hl hS hok
  go_enter Try.func45, Try.ntmps45
  go_wp2_with (go_at_call 69; refine hA.out.mono ?_; rintro e w2 ⟨rfl, g1⟩; have G := hide (HE.out _ g1); clear g1)
  go_ret2
  exact G.out

set_option maxHeartbeats 400000 in
theorem model_2 {w : World} {b : Nat} {d : DS} {S T : Nat → Prop} (h : RHeld w b d S) (hok : d.Ok) (c : CallD) (vB vK : Value) (hc : CallV w c vB vK T) (hT : ∀ k, T k → ¬ S k) (hk : c.kind = 2) :
    Calls Try.prog 45 #[.pointer (some ⟨b, 0, none⟩), .agg #[.int .i64 c.kind, .int .i64 c.file, .int .i64 c.n, vB, vK]] w (ModelEnd w S (d.play c)) := by
  obtain ⟨⟨V, hI0, hS⟩, hl⟩ := h
  have e1 : d.play c = d.truncate c.file c.n := by unfold DS.play; rw [if_neg (by omega)]; rw [if_pos hk]
  rw [e1]
  have ho : Only (fun _ => False) w (w.alloc (.cells #[.int .i64 c.kind, .int .i64 c.file, .int .i64 c.n, vB, vK] 51)) := (Only.refl _ w).alloc _
  obtain ⟨A, n, cp, rfl⟩ := hc.bs.form
  obtain ⟨A2, n2, cp2, rfl⟩ := hc.keep.form
  have hn : n = c.bs.length := by obtain ⟨A, c, e, _⟩ := hc.bs; injection e with _ e _; rw [e, bytesV_length]
  have hcap : n ≤ cp := by obtain ⟨A, c, e, h1, _⟩ := hc.bs; injection e with _ e e3; omega
  obtain ⟨m, hm⟩ : ∃ m, m = min c.bs.length 2000 := ⟨_, rfl⟩
  have hI := hI0.grow ho
  have hmin : (if (2000 : Int) < (n : Int) then (2000 : Int) else n) = (m : Int) := by rw [hn, hm]; split <;> omega
  have hmc : m ≤ cp := by omega
  have HB : Hid (Rds _ (.slice A m cp) (bytesV (c.bs.take 2000)) ∧ rdBlock (.slice A m cp) ≠ some b ∧ (c.bs.take 2000).length ≤ lim46) := ⟨bytesV_rds_take (hc.bs.only ho (fun _ _ => id)) m hm, fun e => hT b (hc.bsT b (rdBlock_le (by omega) e)) (hS b (.inl rfl)), by rw [List.length_take]; unfold lim46; omega⟩
  have HK : Hid (Rds _ (.slice A2 n2 cp2) (intsV c.keep) ∧ rdBlock (.slice A2 n2 cp2) ≠ some b) := ⟨hc.keep.only ho (fun _ _ => id), fun e => hT b (hc.keepT b e) (hS b (.inl rfl))⟩
  have hA := hide (ref_truncate hI hok c.file c.n)
  have HE := hide (fun w2 (g : RefEnd _ b V (d.truncate c.file c.n).1 w2) => ref_model ⟨_, hI⟩ g hS ho)
  rw [hk] at hA HE ho ⊢
  clear e1 hk
  clear hc hT ho hn hcap hm hI HB HK hI0 hl hS hok
  go_enter Try.func45, Try.ntmps45
  go_wp2_with (go_at_call 70; refine hA.out.mono ?_; rintro e w2 ⟨rfl, g1⟩; have G := hide (HE.out _ g1); clear g1)
  go_ret2
  exact G.out

set_option maxHeartbeats 400000 in
theorem model_3 {w : World} {b : Nat} {d : DS} {S T : Nat → Prop} (h : RHeld w b d S) (hok : d.Ok) (c : CallD) (vB vK : Value) (hc : CallV w c vB vK T) (hT : ∀ k, T k → ¬ S k) (hk : c.kind = 3) :
    Calls Try.prog 45 #[.pointer (some ⟨b, 0, none⟩), .agg #[.int .i64 c.kind, .int .i64 c.file, .int .i64 c.n, vB, vK]] w (ModelEnd w S (d.play c)) := by
  obtain ⟨⟨V, hI0, hS⟩, hl⟩ := h
  have e1 : d.play c = d.replace c.file (c.bs.take 2000) := by unfold DS.play; rw [if_neg (by omega)]; rw [if_neg (by omega)]; rw [if_pos hk]
  rw [e1]
  have ho : Only (fun _ => False) w (w.alloc (.cells #[.int .i64 c.kind, .int .i64 c.file, .int .i64 c.n, vB, vK] 51)) := (Only.refl _ w).alloc _
  obtain ⟨A, n, cp, rfl⟩ := hc.bs.form
  obtain ⟨A2, n2, cp2, rfl⟩ := hc.keep.form
  have hn : n = c.bs.length := by obtain ⟨A, c, e, _⟩ := hc.bs; injection e with _ e _; rw [e, bytesV_length]
  have hcap : n ≤ cp := by obtain ⟨A, c, e, h1, _⟩ := hc.bs; injection e with _ e e3; omega
  obtain ⟨m, hm⟩ : ∃ m, m = min c.bs.length 2000 := ⟨_, rfl⟩
  have hI := hI0.grow ho
  have hmin : (if (2000 : Int) < (n : Int) then (2000 : Int) else n) = (m : Int) := by rw [hn, hm]; split <;> omega
  have hmc : m ≤ cp := by omega
  have HB : Hid (Rds _ (.slice A m cp) (bytesV (c.bs.take 2000)) ∧ rdBlock (.slice A m cp) ≠ some b ∧ (c.bs.take 2000).length ≤ lim46) := ⟨bytesV_rds_take (hc.bs.only ho (fun _ _ => id)) m hm, fun e => hT b (hc.bsT b (rdBlock_le (by omega) e)) (hS b (.inl rfl)), by rw [List.length_take]; unfold lim46; omega⟩
  have HK : Hid (Rds _ (.slice A2 n2 cp2) (intsV c.keep) ∧ rdBlock (.slice A2 n2 cp2) ≠ some b) := ⟨hc.keep.only ho (fun _ _ => id), fun e => hT b (hc.keepT b e) (hS b (.inl rfl))⟩
  have hA := hide (ref_replace hI hok c.file _ (c.bs.take 2000) HB.out.1 HB.out.2.1 HB.out.2.2)
  have HE := hide (fun w2 (g : RefEnd _ b V (d.replace c.file (c.bs.take 2000)).1 w2) => ref_model ⟨_, hI⟩ g hS ho)
  rw [hk] at hA HE ho ⊢
  clear e1 hk
  clear hc hT ho hn hcap hm hI HB HK hI0 hl hS hok
  go_enter Try.func45, Try.ntmps45
  go_wp2_with (go_at_call 71; refine hA.out.mono ?_; rintro e w2 ⟨rfl, g1⟩; have G := hide (HE.out _ g1); clear g1)
  go_ret2
  exact G.out

set_option maxHeartbeats 400000 in
theorem model_4 {w : World} {b : Nat} {d : DS} {S T : Nat → Prop} (h : RHeld w b d S) (hok : d.Ok) (c : CallD) (vB vK : Value) (hc : CallV w c vB vK T) (hT : ∀ k, T k → ¬ S k) (hk : c.kind = 4) :
    Calls Try.prog 45 #[.pointer (some ⟨b, 0, none⟩), .agg #[.int .i64 c.kind, .int .i64 c.file, .int .i64 c.n, vB, vK]] w (ModelEnd w S (d.play c)) := by
  obtain ⟨⟨V, hI0, hS⟩, hl⟩ := h
  have e1 : d.play c = d.sync c.file := by unfold DS.play; rw [if_neg (by omega)]; rw [if_neg (by omega)]; rw [if_neg (by omega)]; rw [if_pos hk]
  rw [e1]
  have ho : Only (fun _ => False) w (w.alloc (.cells #[.int .i64 c.kind, .int .i64 c.file, .int .i64 c.n, vB, vK] 51)) := (Only.refl _ w).alloc _
  obtain ⟨A, n, cp, rfl⟩ := hc.bs.form
  obtain ⟨A2, n2, cp2, rfl⟩ := hc.keep.form
  have hn : n = c.bs.length := by obtain ⟨A, c, e, _⟩ := hc.bs; injection e with _ e _; rw [e, bytesV_length]
  have hcap : n ≤ cp := by obtain ⟨A, c, e, h1, _⟩ := hc.bs; injection e with _ e e3; omega
  obtain ⟨m, hm⟩ : ∃ m, m = min c.bs.length 2000 := ⟨_, rfl⟩
  have hI := hI0.grow ho
  have hmin : (if (2000 : Int) < (n : Int) then (2000 : Int) else n) = (m : Int) := by rw [hn, hm]; split <;> omega
  have hmc : m ≤ cp := by omega
  have HB : Hid (Rds _ (.slice A m cp) (bytesV (c.bs.take 2000)) ∧ rdBlock (.slice A m cp) ≠ some b ∧ (c.bs.take 2000).length ≤ lim46) := ⟨bytesV_rds_take (hc.bs.only ho (fun _ _ => id)) m hm, fun e => hT b (hc.bsT b (rdBlock_le (by omega) e)) (hS b (.inl rfl)), by rw [List.length_take]; unfold lim46; omega⟩
  have HK : Hid (Rds _ (.slice A2 n2 cp2) (intsV c.keep) ∧ rdBlock (.slice A2 n2 cp2) ≠ some b) := ⟨hc.keep.only ho (fun _ _ => id), fun e => hT b (hc.keepT b e) (hS b (.inl rfl))⟩
  have hA := hide (ref_sync hI hok c.file)
  have HE := hide (fun w2 (g : RefEnd _ b V (d.sync c.file).1 w2) => ref_model ⟨_, hI⟩ g hS ho)
  rw [hk] at hA HE ho ⊢
  clear e1 hk
  clear hc hT ho hn hcap hm hI HB HK hI0 hl hS hok
  go_enter Try.func45, Try.ntmps45
  go_wp2_with (go_at_call 72; refine hA.out.mono ?_; rintro e w2 ⟨rfl, g1⟩; have G := hide (HE.out _ g1); clear g1)
  go_ret2
  exact G.out

set_option maxHeartbeats 400000 in
theorem model_5 {w : World} {b : Nat} {d : DS} {S T : Nat → Prop} (h : RHeld w b d S) (hok : d.Ok) (c : CallD) (vB vK : Value) (hc : CallV w c vB vK T) (hT : ∀ k, T k → ¬ S k) (hk : c.kind = 5) :
    Calls Try.prog 45 #[.pointer (some ⟨b, 0, none⟩), .agg #[.int .i64 c.kind, .int .i64 c.file, .int .i64 c.n, vB, vK]] w (ModelEnd w S (d.play c)) := by
  obtain ⟨⟨V, hI0, hS⟩, hl⟩ := h
  have e1 : d.play c = (d.fail c.n, 0) := by unfold DS.play; rw [if_neg (by omega)]; rw [if_neg (by omega)]; rw [if_neg (by omega)]; rw [if_neg (by omega)]; rw [if_pos hk]
  rw [e1]
  have ho : Only (fun _ => False) w (w.alloc (.cells #[.int .i64 c.kind, .int .i64 c.file, .int .i64 c.n, vB, vK] 51)) := (Only.refl _ w).alloc _
  obtain ⟨A, n, cp, rfl⟩ := hc.bs.form
  obtain ⟨A2, n2, cp2, rfl⟩ := hc.keep.form
  have hn : n = c.bs.length := by obtain ⟨A, c, e, _⟩ := hc.bs; injection e with _ e _; rw [e, bytesV_length]
  have hcap : n ≤ cp := by obtain ⟨A, c, e, h1, _⟩ := hc.bs; injection e with _ e e3; omega
  obtain ⟨m, hm⟩ : ∃ m, m = min c.bs.length 2000 := ⟨_, rfl⟩
  have hI := hI0.grow ho
  have hmin : (if (2000 : Int) < (n : Int) then (2000 : Int) else n) = (m : Int) := by rw [hn, hm]; split <;> omega
  have hmc : m ≤ cp := by omega
  have HB : Hid (Rds _ (.slice A m cp) (bytesV (c.bs.take 2000)) ∧ rdBlock (.slice A m cp) ≠ some b ∧ (c.bs.take 2000).length ≤ lim46) := ⟨bytesV_rds_take (hc.bs.only ho (fun _ _ => id)) m hm, fun e => hT b (hc.bsT b (rdBlock_le (by omega) e)) (hS b (.inl rfl)), by rw [List.length_take]; unfold lim46; omega⟩
  have HK : Hid (Rds _ (.slice A2 n2 cp2) (intsV c.keep) ∧ rdBlock (.slice A2 n2 cp2) ≠ some b) := ⟨hc.keep.only ho (fun _ _ => id), fun e => hT b (hc.keepT b e) (hS b (.inl rfl))⟩
  have hA := hide (ref_fail hI c.n)
  have HE := hide (fun w2 (g : RefEnd _ b V ((d.fail c.n, 0) : DS × Int).1 w2) => ref_model ⟨_, hI⟩ g hS ho)
  rw [hk] at hA HE ho ⊢
  clear e1 hk
  clear hc hT ho hn hcap hm hI HB HK hI0 hl hS hok
  go_enter Try.func45, Try.ntmps45
  go_wp2_with (go_at_call 73; refine hA.out.mono ?_; rintro e w2 ⟨rfl, g1⟩; have G := hide (HE.out _ g1); clear g1)
  go_ret2
  exact G.out

set_option maxHeartbeats 400000 in
theorem model_6 {w : World} {b : Nat} {d : DS} {S T : Nat → Prop} (h : RHeld w b d S) (hok : d.Ok) (c : CallD) (vB vK : Value) (hc : CallV w c vB vK T) (hT : ∀ k, T k → ¬ S k) (hk : c.kind = 6) :
    Calls Try.prog 45 #[.pointer (some ⟨b, 0, none⟩), .agg #[.int .i64 c.kind, .int .i64 c.file, .int .i64 c.n, vB, vK]] w (ModelEnd w S (d.play c)) := by
  obtain ⟨⟨V, hI0, hS⟩, hl⟩ := h
  have e1 : d.play c = (d.crash c.keep, 0) := by unfold DS.play; rw [if_neg (by omega)]; rw [if_neg (by omega)]; rw [if_neg (by omega)]; rw [if_neg (by omega)]; rw [if_neg (by omega)]; rw [if_pos hk]
  rw [e1]
  have ho : Only (fun _ => False) w (w.alloc (.cells #[.int .i64 c.kind, .int .i64 c.file, .int .i64 c.n, vB, vK] 51)) := (Only.refl _ w).alloc _
  obtain ⟨A, n, cp, rfl⟩ := hc.bs.form
  obtain ⟨A2, n2, cp2, rfl⟩ := hc.keep.form
  have hn : n = c.bs.length := by obtain ⟨A, c, e, _⟩ := hc.bs; injection e with _ e _; rw [e, bytesV_length]
  have hcap : n ≤ cp := by obtain ⟨A, c, e, h1, _⟩ := hc.bs; injection e with _ e e3; omega
  obtain ⟨m, hm⟩ : ∃ m, m = min c.bs.length 2000 := ⟨_, rfl⟩
  have hI := hI0.grow ho
  have hmin : (if (2000 : Int) < (n : Int) then (2000 : Int) else n) = (m : Int) := by rw [hn, hm]; split <;> omega
  have hmc : m ≤ cp := by omega
  have HB : Hid (Rds _ (.slice A m cp) (bytesV (c.bs.take 2000)) ∧ rdBlock (.slice A m cp) ≠ some b ∧ (c.bs.take 2000).length ≤ lim46) := ⟨bytesV_rds_take (hc.bs.only ho (fun _ _ => id)) m hm, fun e => hT b (hc.bsT b (rdBlock_le (by omega) e)) (hS b (.inl rfl)), by rw [List.length_take]; unfold lim46; omega⟩
  have HK : Hid (Rds _ (.slice A2 n2 cp2) (intsV c.keep) ∧ rdBlock (.slice A2 n2 cp2) ≠ some b) := ⟨hc.keep.only ho (fun _ _ => id), fun e => hT b (hc.keepT b e) (hS b (.inl rfl))⟩
  have hA := hide (ref_crash hI hok _ c.keep HK.out.1 HK.out.2)
  have HE := hide (fun w2 (g : RefEnd _ b V ((d.crash c.keep, 0) : DS × Int).1 w2) => ref_model ⟨_, hI⟩ g hS ho)
  rw [hk] at hA HE ho ⊢
  clear e1 hk
  clear hc hT ho hn hcap hm hI HB HK hI0 hl hS hok
  go_enter Try.func45, Try.ntmps45
  go_wp2_with (go_at_call 74; refine hA.out.mono ?_; rintro e w2 ⟨rfl, g1⟩; have G := hide (HE.out _ g1); clear g1)
  go_ret2
  exact G.out

set_option maxHeartbeats 400000 in
theorem model_7 {w : World} {b : Nat} {d : DS} {S T : Nat → Prop} (h : RHeld w b d S) (hok : d.Ok) (c : CallD) (vB vK : Value) (hc : CallV w c vB vK T) (hT : ∀ k, T k → ¬ S k) (hk : c.kind = 7) :
    Calls Try.prog 45 #[.pointer (some ⟨b, 0, none⟩), .agg #[.int .i64 c.kind, .int .i64 c.file, .int .i64 c.n, vB, vK]] w (ModelEnd w S (d.play c)) := by
  obtain ⟨⟨V, hI0, hS⟩, hl⟩ := h
  have e1 : d.play c = (d, 0) := by unfold DS.play; rw [if_neg (by omega), if_neg (by omega), if_neg (by omega), if_neg (by omega), if_neg (by omega), if_neg (by omega)]
  rw [e1]
  have ho : Only (fun _ => False) w (w.alloc (.cells #[.int .i64 c.kind, .int .i64 c.file, .int .i64 c.n, vB, vK] 51)) := (Only.refl _ w).alloc _
  obtain ⟨A, n, cp, rfl⟩ := hc.bs.form
  obtain ⟨A2, n2, cp2, rfl⟩ := hc.keep.form
  have hn : n = c.bs.length := by obtain ⟨A, c, e, _⟩ := hc.bs; injection e with _ e _; rw [e, bytesV_length]
  have hcap : n ≤ cp := by obtain ⟨A, c, e, h1, _⟩ := hc.bs; injection e with _ e e3; omega
  obtain ⟨m, hm⟩ : ∃ m, m = min c.bs.length 2000 := ⟨_, rfl⟩
  have hI := hI0.grow ho
  have hmin : (if (2000 : Int) < (n : Int) then (2000 : Int) else n) = (m : Int) := by rw [hn, hm]; split <;> omega
  have hmc : m ≤ cp := by omega
  have HB : Hid (Rds _ (.slice A m cp) (bytesV (c.bs.take 2000)) ∧ rdBlock (.slice A m cp) ≠ some b ∧ (c.bs.take 2000).length ≤ lim46) := ⟨bytesV_rds_take (hc.bs.only ho (fun _ _ => id)) m hm, fun e => hT b (hc.bsT b (rdBlock_le (by omega) e)) (hS b (.inl rfl)), by rw [List.length_take]; unfold lim46; omega⟩
  have HK : Hid (Rds _ (.slice A2 n2 cp2) (intsV c.keep) ∧ rdBlock (.slice A2 n2 cp2) ≠ some b) := ⟨hc.keep.only ho (fun _ _ => id), fun e => hT b (hc.keepT b e) (hS b (.inl rfl))⟩
  have hA := hide (ref_copy_at hI hok)
  have HE : Hid (∀ w2, (∃ V', RefCopy (w.alloc (.cells #[.int .i64 c.kind, .int .i64 c.file, .int .i64 c.n, .slice A n cp, .slice A2 n2 cp2] 51)) d (w.alloc (.cells #[.int .i64 c.kind, .int .i64 c.file, .int .i64 c.n, .slice A n cp, .slice A2 n2 cp2] 51)).heap.size 8 V' w2) → ModelEnd w S (d, 0) (.returned (.tuple #[.pointer (some ⟨(w.alloc (.cells #[.int .i64 c.kind, .int .i64 c.file, .int .i64 c.n, .slice A n cp, .slice A2 n2 cp2] 51)).heap.size, 0, none⟩), .int .i64 0])) w2) := fun w2 ⟨V', g⟩ => by
    have hR : RefAt w2 _ d V' := ⟨g.blk, fun i hi => g.rds i hi, fun i hi e => (g.new i hi _ e).2 rfl⟩
    refine ⟨_, rfoot _ V', rfl, ⟨⟨V', hR, fun _ h => h⟩, fun k hk => hR.lt hk⟩, ⟨(ho.trans' g.only).mono fun _ _ h => h.elim, fun k hk => .inr ?_⟩⟩
    rcases hk with rfl | ⟨i, hi, hk⟩
    · exact ho.size
    · exact Nat.le_trans ho.size (g.new i hi k hk).1
  rw [hk] at hA HE ho ⊢
  have hB2 := hide (hA.out.mono (R' := fun e w2 => ∃ b2, e = .returned (.pointer (some ⟨b2, 0, none⟩)) ∧ ModelEnd w S (d, 0) (.returned (.tuple #[.pointer (some ⟨b2, 0, none⟩), .int .i64 0])) w2) fun e w2 g => ⟨_, g.1, HE.out _ g.2⟩)
  clear hA HE
  clear e1 hk
  clear hc hT ho hn hcap hm hI HB HK hI0 hl hS hok
  go_enter Try.func45, Try.ntmps45
  go_wp2_with (go_at_call 75; refine hB2.out.mono ?_; rintro e w2 ⟨b2, rfl, g1⟩; have G := hide g1; clear g1)
  go_ret2
  exact G.out

set_option maxHeartbeats 400000 in
theorem model_8 {w : World} {b : Nat} {d : DS} {S T : Nat → Prop} (h : RHeld w b d S) (hok : d.Ok) (c : CallD) (vB vK : Value) (hc : CallV w c vB vK T) (hT : ∀ k, T k → ¬ S k) (hk : c.kind < 1 ∨ 7 < c.kind) :
    Calls Try.prog 45 #[.pointer (some ⟨b, 0, none⟩), .agg #[.int .i64 c.kind, .int .i64 c.file, .int .i64 c.n, vB, vK]] w (ModelEnd w S (d.play c)) := by
  obtain ⟨⟨V, hI0, hS⟩, hl⟩ := h
  have e1 : d.play c = (d, 0) := by unfold DS.play; rw [if_neg (by omega), if_neg (by omega), if_neg (by omega), if_neg (by omega), if_neg (by omega), if_neg (by omega)]
  rw [e1]
  have ho : Only (fun _ => False) w (w.alloc (.cells #[.int .i64 c.kind, .int .i64 c.file, .int .i64 c.n, vB, vK] 51)) := (Only.refl _ w).alloc _
  obtain ⟨A, n, cp, rfl⟩ := hc.bs.form
  obtain ⟨A2, n2, cp2, rfl⟩ := hc.keep.form
  have hn : n = c.bs.length := by obtain ⟨A, c, e, _⟩ := hc.bs; injection e with _ e _; rw [e, bytesV_length]
  have hcap : n ≤ cp := by obtain ⟨A, c, e, h1, _⟩ := hc.bs; injection e with _ e e3; omega
  obtain ⟨m, hm⟩ : ∃ m, m = min c.bs.length 2000 := ⟨_, rfl⟩
  have hI := hI0.grow ho
  have hmin : (if (2000 : Int) < (n : Int) then (2000 : Int) else n) = (m : Int) := by rw [hn, hm]; split <;> omega
  have hmc : m ≤ cp := by omega
  have HB : Hid (Rds _ (.slice A m cp) (bytesV (c.bs.take 2000)) ∧ rdBlock (.slice A m cp) ≠ some b ∧ (c.bs.take 2000).length ≤ lim46) := ⟨bytesV_rds_take (hc.bs.only ho (fun _ _ => id)) m hm, fun e => hT b (hc.bsT b (rdBlock_le (by omega) e)) (hS b (.inl rfl)), by rw [List.length_take]; unfold lim46; omega⟩
  have HK : Hid (Rds _ (.slice A2 n2 cp2) (intsV c.keep) ∧ rdBlock (.slice A2 n2 cp2) ≠ some b) := ⟨hc.keep.only ho (fun _ _ => id), fun e => hT b (hc.keepT b e) (hS b (.inl rfl))⟩
  have HG : Hid (ModelEnd w S (d, 0) (.returned (.tuple #[.pointer (some ⟨b, 0, none⟩), .int .i64 0])) (w.alloc (.cells #[.int .i64 c.kind, .int .i64 c.file, .int .i64 c.n, .slice A n cp, .slice A2 n2 cp2] 51))) :=
    ref_model ⟨_, hI⟩ ⟨V, hI, fun _ => .inl, Only.refl _ _⟩ hS ho
  have q1 : (c.kind == 1) = false := by simp; omega
  have q2 : (c.kind == 2) = false := by simp; omega
  have q3 : (c.kind == 3) = false := by simp; omega
  have q4 : (c.kind == 4) = false := by simp; omega
  have q5 : (c.kind == 5) = false := by simp; omega
  have q6 : (c.kind == 6) = false := by simp; omega
  have q7 : (c.kind == 7) = false := by simp; omega
  clear e1 hk
  clear hc hT ho hn hcap hm hI HB HK hI0 hl hS hok
  go_enter Try.func45, Try.ntmps45
  go_wp2
  go_ret2
  exact HG

theorem model_any {w : World} {b : Nat} {d : DS} {S T : Nat → Prop} (h : RHeld w b d S) (hok : d.Ok) (c : CallD) (vB vK : Value) (hc : CallV w c vB vK T) (hT : ∀ k, T k → ¬ S k) :
    Calls Try.prog 45 #[.pointer (some ⟨b, 0, none⟩), .agg #[.int .i64 c.kind, .int .i64 c.file, .int .i64 c.n, vB, vK]] w (ModelEnd w S (d.play c)) := by
  by_cases h8 : c.kind < 1 ∨ 7 < c.kind
  · exact model_8 h hok c vB vK hc hT h8
  · have : c.kind = 1 ∨ c.kind = 2 ∨ c.kind = 3 ∨ c.kind = 4 ∨ c.kind = 5 ∨ c.kind = 6 ∨ c.kind = 7 := by omega
    rcases this with k | k | k | k | k | k | k
    · exact model_1 h hok c vB vK hc hT k
    · exact model_2 h hok c vB vK hc hT k
    · exact model_3 h hok c vB vK hc hT k
    · exact model_4 h hok c vB vK hc hT k
    · exact model_5 h hok c vB vK hc hT k
    · exact model_6 h hok c vB vK hc hT k
    · exact model_7 h hok c vB vK hc hT k

end Go.Proofs.Ytldhpbmcpmebaaa

