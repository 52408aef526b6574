/- The changes of a file that the disk hands to gate. -/
import Derived.Test.YtcedenhfchcgiaaDiskW2
import Derived.Deep.RegionHeld3
set_option linter.unusedVariables false
set_option linter.unusedSimpArgs false
namespace Go.Proofs.Ytcedenhfchcgiaa
open Go.RowKit

/-- append of bytes as one step of a region that draws its order. -/
theorem step_app {w : World} {ops : Array Oper} {o : Oper} {a : Act} {K : Act → World → Prop} {Q : Exit → Act → World → Prop} {E : Prop} (hgd : o.guard = none) (s x : Operand) (tx : TypeId)
    (ho : o.op = .call { callee := .builtin .append, args := #[s, x], argTypes := #[23, tx] })
    (v : Value) (n : Nat) (l : List UInt8) (hsv : a.eval s = v) (hown : w.ownsRow 0 5 1 v n (bytesV l)) (xv : Value) (hxv : a.eval x = xv) (k : Nat) (m : List UInt8) (hs : Src Try.prog 1 tx xv k (bytesV m) w)
    (hb : l.length + m.length ≤ lim47)
    (h : ∀ v' w', w'.ownsRow 0 5 1 v' (l ++ m).length (bytesV (l ++ m)) → w.grownBy w' v.ownBlock → (v'.ownBlock = v.ownBlock ∨ ∃ k, v'.ownBlock = some k ∧ w.heap.size ≤ k) → K (a.put o.dst v') w') :
    if Region.wanted o (yielded ops a.tmps) = true then Oper.wp Try.prog o a w K Q else E := by
  have hw : Region.wanted o (yielded ops a.tmps) = true := by simp [Region.wanted, hgd]
  rw [if_pos hw]
  obtain ⟨i0, hi, hz0, hz1, hz2⟩ := info_parts info_u8
  have h1 : n = l.length := by have := hown.1; rw [bytesV_length] at this; omega
  have h2 : k = m.length := by have := hs.newsLen; rw [bytesV_length] at this; omega
  subst h1 h2
  simp only [lim47] at hb
  obtain ⟨v', w', hr, h2, h3, h4, _⟩ := run_append_any (P := Try.prog) w 0 23 tx o.type 5 i0 (.int .u8 0) Try.underlying23 hi hz0 hz1 rfl v _ (bytesV l) hown xv m.length (bytesV m) hs (by simp only [maxLen]; omega) (by rw [hz2]; omega) (Nat.zero_le _)
  unfold Oper.wp execOp
  simp only [ho, resolve, invoke, builtin, Sem.run_bind, Sem.run_pure, Result.andThen_ok, List.map_toArray, List.map_cons, List.map_nil, hsv, hxv, hr]
  refine h v' w' ?_ h3 h4
  rw [bytesV_append, List.length_append]
  exact h2

theorem Src.drew' {P : Program} {tx : TypeId} {x : Value} {news : List Value} {w : World} (h : Rds w x news) {e' : TypeId} (ht : P.underlying tx = some (.slice e')) (h1 : ∀ u ∈ news, u.oneCell' = true) : Src P 1 tx x news.length news w.drew :=
  (h.only ((Only.refl (fun _ => False) w).drew) (by simp)).src ht h1

theorem cell_setCell_far {w : World} {b g o o2 : Nat} {u x : Value} (h : w.cell? ⟨g, o2, none⟩ = some x) (hgb : g ≠ b) : (w.setCell ⟨b, o, none⟩ u).cell? ⟨g, o2, none⟩ = some x :=
  ((Only.refl (fun k => k = b) w).setCell (.inl rfl) u).cell h hgb
theorem ownBlock_len (A : Option Addr) (n m c c' : Nat) : (Value.slice A n c).ownBlock = (Value.slice A m c').ownBlock := by cases A <;> rfl

theorem appender1_any {w : World} {b : Nat} {d : DS} {V : Nat → Value} (h : DiskAt w b d V) (c1 : Addr) (x : Value) (l : List UInt8) (i : Nat) (hi : i < 8) (hn : d.len i + l.length ≤ lim47)
    (h1 : w.cell? c1 = some x) (hx : Rds w x (bytesV l)) :
    Calls Try.prog 39 #[.pointer (some ⟨b, 1 + i * 2, none⟩), .pointer (some c1)] w fun e w' => e = .returned (.tuple #[]) ∧ ∃ v, DiskAt w' b { d with data := upd d.data i (d.data i ++ l) } (upd V i v) ∧ (v.ownBlock = (V i).ownBlock ∨ ∃ k, v.ownBlock = some k ∧ w.heap.size ≤ k) ∧ Only (dfoot b V) w w' := by
  have hd := h.cell_data hi
  have hf := h.frozen (1 + i * 2)
  obtain ⟨A, c, eV⟩ := own_form (h.own i hi)
  rw [eV] at hd
  have hs : Src Try.prog 1 23 x (bytesV l).length (bytesV l) w.drew := Src.drew' hx Try.underlying23 (bytesV_one l)
  have hown : w.drew.ownsRow 0 5 1 (.slice A (d.len i) c) (d.len i) (bytesV (d.data i)) := by rw [← eV]; exact (Only.refl (fun _ => False) w).drew.owns (h.own i hi) (by simp)
  obtain ⟨A2, n2, c2, rfl⟩ : ∃ A n c, x = .slice A n c := by obtain ⟨A, c, e, _⟩ := hx; exact ⟨A, _, c, e⟩
  have hne := h.ne hi
  rw [eV] at hne
  have hbw := heap_lt h.blk
  have H := hide h
  have HE := hide eV
  have HH := hide hn
  have HP := hide (show ∀ w', w.drew.grownBy w' (Value.slice A (d.len i) c).ownBlock → w'.cell? ⟨b, 1 + i * 2, none⟩ = some (.slice A (d.len i) c) ∧ w'.frozen? ⟨b, 1 + i * 2, none⟩ = false from fun w' hg => by
    have hb : w'.heap[b]? = w.heap[b]? := hg.block b hbw (fun e => hne e.symm)
    exact ⟨(World.cell?_of_block (w := w) hb).trans hd, (World.frozen?_of_block (w := w) hb).trans hf⟩)
  clear h eV hne hbw hx hn
  go_enter Try.func39, Try.ntmps39
  go_region_law (refine step_app rfl _ _ 23 rfl (.slice A (d.len i) c) (d.len i) (d.data i) rfl hown _ rfl _ l hs HH ?_; intro v' w' g1 g2 g3; obtain ⟨A', n', c', rfl⟩ := own_form' g1; obtain ⟨hd', hf'⟩ := HP.out w' g2; have G1 := hide g1; have G2 := hide g2; have G3 := hide g3; clear g1 g2 g3)
  all_goals
    go_end0
    refine ⟨rfl, _, H.out.set_data hi (by rw [HE.out]; exact ⟨G2.out.os, G2.out.tape, G2.out.output, G2.out.size, G2.out.block⟩) G1.out (by rw [HE.out]; exact .inr G3.out), by rw [HE.out]; exact G3.out, ?_⟩
    refine Only.setCell (Only.grown (Only.refl _ _).drew G2.out fun k hk => .inl (.inr ⟨i, hi, by rw [HE.out]; exact hk⟩)) (.inl (.inl rfl)) _


theorem sync1_any (v : Value) (w : World) : Calls Try.prog 46 #[v] w fun e w' => e = .returned (.int .i64 0) ∧ w = w' := by
  go_enter Try.func46, Try.ntmps46
  go_wp2
  go_ret
  exact ⟨rfl, rfl⟩

theorem sync2_any {w : World} {b : Nat} {d : DS} {V : Nat → Value} (h : DiskAt w b d V) (i : Nat) (hi : i < 8) :
    Calls Try.prog 47 #[.pointer (some ⟨b, 1 + i * 2, none⟩)] w fun e w' => e = .returned (.tuple #[]) ∧ DiskAt w' b { d with syn := upd d.syn i (d.len i) } V ∧ Only (dfoot b V) w w' := by
  have hd := h.cell_data hi
  have hs := h.cell_syn hi
  have hf := h.frozen (1 + i * 2 + 1)
  obtain ⟨A, c, eV⟩ := own_form (h.own i hi)
  rw [eV] at hd
  have H := hide h
  clear h eV
  go_enter Try.func47, Try.ntmps47
  go_wp2
  go_end0
  exact ⟨rfl, H.out.set_syn hi _, (Only.refl _ _).setCell (.inl (.inl rfl)) _⟩

def DS.cut (d : DS) (i : Nat) (n : Int) : Int := if n < 0 ∨ (d.len i : Int) < n then 1 else 0

theorem truncate1_any {w : World} {b : Nat} {d : DS} {V : Nat → Value} (h : DiskAt w b d V) (hok : d.Ok) (c1 : Addr) (n : Int) (i : Nat) (hi : i < 8) (h1 : w.cell? c1 = some (.int .i64 n)) :
    Calls Try.prog 35 #[.pointer (some ⟨b, 1 + i * 2, none⟩), .pointer (some c1)] w fun e w' => e = .returned (.int .i64 (d.cut i n)) ∧ ∃ q, w' = w.drewN q := by
  have hd := h.cell_data hi
  obtain ⟨A, c, eV⟩ := own_form (h.own i hi)
  rw [eV] at hd
  clear h eV
  by_cases hn : n < 0
  · have hv : d.cut i n = 1 := by unfold DS.cut; rw [if_pos (.inl hn)]
    rw [hv]
    clear hv
    go_enter Try.func35, Try.ntmps35
    go_wp2
    have hb : decide (n < 0) = true := by simpa using hn
    go_quiet (fail)
    go_wp2
    go_ret
    exact ⟨rfl, nq, rfl⟩
  · by_cases hm : (d.len i : Int) < n
    · have hv : d.cut i n = 1 := by unfold DS.cut; rw [if_pos (.inr hm)]
      rw [hv]
      clear hv
      go_enter Try.func35, Try.ntmps35
      go_wp2
      have hb : decide (n < 0) = false := by simpa using hn
      go_quiet (fail)
      go_wp2
      go_ret
      exact ⟨rfl, nq, rfl⟩
    · have hv : d.cut i n = 0 := by unfold DS.cut; rw [if_neg (by omega)]
      rw [hv]
      clear hv
      go_enter Try.func35, Try.ntmps35
      go_wp2
      have hb : decide (n < 0) = false := by simpa using hn
      go_quiet (fail)
      go_wp2
      go_ret
      exact ⟨rfl, nq, rfl⟩

theorem truncate2_any {w : World} {b : Nat} {d : DS} {V : Nat → Value} (h : DiskAt w b d V) (g : Nat) (hgb : g ≠ b) (n : Nat) (i : Nat) (hi : i < 8) (h1 : w.cell? ⟨g, 0, none⟩ = some (.int .i64 n)) (hn : n ≤ d.len i) :
    Calls Try.prog 36 #[.pointer (some ⟨b, 1 + i * 2, none⟩), .pointer (some ⟨g, 0, none⟩)] w fun e w' => e = .returned (.tuple #[]) ∧ ∃ V', DiskAt w' b { d with data := upd d.data i ((d.data i).take n), syn := upd d.syn i n } V' ∧ (∀ k, dfoot b V' k → dfoot b V k) ∧ Only (dfoot b V) w w' := by
  have hd := h.cell_data hi
  have hs := h.cell_syn hi
  have hf := h.frozen (1 + i * 2)
  have hf2 := h.frozen (1 + i * 2 + 1)
  obtain ⟨A, c, eV, hle⟩ := own_form_le (h.own i hi)
  have hnc : n ≤ c := by omega
  rw [eV] at hd
  have H := hide h
  have HE := hide eV
  have hx : ∀ (o : Nat) (u : Value), (w.setCell ⟨b, o, none⟩ u).cell? ⟨g, 0, none⟩ = some (.int .i64 n) := fun o u => ((Only.refl (fun k => k = b) w).setCell (.inl rfl) u).cell h1 hgb
  clear h eV
  go_enter Try.func36, Try.ntmps36
  go_region
  all_goals
    go_end0
    have hown : w.ownsRow 0 5 1 (.slice A n c) ((d.data i).take n).length (bytesV ((d.data i).take n)) := by
      have := H.out.own i hi
      rw [HE.out] at this
      have h2 := own_take this n hn
      rw [List.length_take, Nat.min_eq_left (show n ≤ (d.data i).length from hn), bytesV_take]
      exact h2
    refine ⟨rfl, _, ((H.out.set_data (w1 := w) hi ⟨rfl, rfl, rfl, Nat.le_refl _, fun _ _ _ => rfl⟩ hown ?_).set_syn hi n).drew, ?_, ?_⟩
    · rw [HE.out]; exact .inr (.inl (ownBlock_len _ _ _ _ _))
    · rintro k (hk | ⟨j, hj, hk⟩)
      · exact .inl hk
      · refine .inr ⟨j, hj, ?_⟩
        by_cases e : j = i
        · subst e
          rw [upd_same] at hk
          rw [HE.out, ← hk]
          exact ownBlock_len _ _ _ _ _
        · rw [upd_ne _ _ e] at hk
          exact hk
    · exact (((Only.refl (dfoot b V) w).setCell (.inl (.inl rfl)) _).setCell (.inl (.inl rfl)) _).drew

theorem replace1_any {w : World} {b : Nat} {d : DS} {V : Nat → Value} (h : DiskAt w b d V) (g : Nat) (hgb : g ≠ b) (x : Value) (l : List UInt8) (i : Nat) (hi : i < 8) (hn : l.length ≤ lim47)
    (h1 : w.cell? ⟨g, 0, none⟩ = some x) (hx : Rds w x (bytesV l)) :
    Calls Try.prog 42 #[.pointer (some ⟨b, 1 + i * 2, none⟩), .pointer (some ⟨g, 0, none⟩)] w fun e w' => e = .returned (.tuple #[]) ∧ ∃ V', DiskAt w' b { d with data := upd d.data i l, syn := upd d.syn i l.length } V' ∧ (∀ k, dfoot b V' k → dfoot b V k ∨ w.heap.size ≤ k) ∧ Only (dfoot b V) w w' := by
  have hcl := hide (clone_any w.drew x l (hx.only ((Only.refl (fun _ => False) w).drew) (by simp)) hn)
  obtain ⟨A2, n2, c2, rfl⟩ : ∃ A n c, x = .slice A n c := by obtain ⟨A, c, e, _⟩ := hx; exact ⟨A, _, c, e⟩
  have hn2 : n2 = l.length := by obtain ⟨A, c, e, _⟩ := hx; injection e with _ e _; rw [e, bytesV_length]
  have HN := hide hn2
  have hd := h.cell_data hi
  have hs := h.cell_syn hi
  have hf := h.frozen (1 + i * 2)
  have hf2 := h.frozen (1 + i * 2 + 1)
  obtain ⟨A3, c3, eV⟩ := own_form (h.own i hi)
  rw [eV] at hd
  have hbw := heap_lt h.blk
  have hgw : g < w.heap.size := World.block_lt_of_cell? w ⟨g, 0, none⟩ h1
  have hx1 : ∀ (o : Nat) (u : Value), (w.setCell ⟨b, o, none⟩ u).cell? ⟨g, 0, none⟩ = some (.slice A2 n2 c2) := fun o u => ((Only.refl (fun k => k = b) w).setCell (.inl rfl) u).cell h1 hgb
  have HP := hide (show ∀ w' : World, Only (fun _ => False) w.drew w' → w'.cell? ⟨b, 1 + i * 2, none⟩ = some (.slice A3 (d.len i) c3) ∧ w'.frozen? ⟨b, 1 + i * 2, none⟩ = false ∧ w'.cell? ⟨b, 1 + i * 2 + 1, none⟩ = some (.int .i64 (d.syn i)) ∧ w'.frozen? ⟨b, 1 + i * 2 + 1, none⟩ = false ∧ w'.cell? ⟨g, 0, none⟩ = some (.slice A2 n2 c2) ∧ ∀ (o : Nat) (u : Value), (w'.setCell ⟨b, o, none⟩ u).cell? ⟨g, 0, none⟩ = some (.slice A2 n2 c2) from fun w' hg => by
    have hb : w'.heap[b]? = w.heap[b]? := hg.block b hbw id
    have h3 : w'.cell? ⟨g, 0, none⟩ = some (.slice A2 n2 c2) := (World.cell?_of_block (w := w) (hg.block g hgw id)).trans h1
    exact ⟨(World.cell?_of_block (w := w) hb).trans hd, (World.frozen?_of_block (w := w) hb).trans hf, (World.cell?_of_block (w := w) hb).trans hs, (World.frozen?_of_block (w := w) hb).trans hf2, h3, fun o u => ((Only.refl (fun k => k = b) w').setCell (.inl rfl) u).cell h3 hgb⟩)
  have H := hide h
  clear h hn2 hn hx eV hbw hgw
  go_enter Try.func42, Try.ntmps42
  go_region_held3 (fun w' => w'.cell? ⟨g, 0, none⟩ = some (.slice A2 n2 c2)) (first | go_keep | exact cell_setCell_far p5 hgb | exact cell_setCell_far (cell_setCell_far p5 hgb) hgb) ((go_at_call 24; refine hcl.out.mono ?_; rintro e w' ⟨v, rfl, g1, g2, g3⟩; obtain ⟨A', n', c', rfl⟩ := own_form' g1; obtain ⟨p1, p2, p3, p4, p5, p6⟩ := HP.out w' g3; have G1 := hide g1; have G2 := hide g2; have G3 := hide g3; clear g1 g2 g3))
  all_goals
    go_end0
    have g1 := G1.out
    have g3 := G3.out
    have e1 : (n2 : Int) = (l.length : Nat) := by rw [HN.out]
    rw [e1]
    refine ⟨rfl, _, (H.out.set_data (w1 := w') hi ⟨g3.os, g3.tape, g3.output, g3.size, fun k hk _ => g3.block k hk id⟩ g1 ?_).set_syn hi l.length, ?_, ?_⟩
    · rcases G2.out with e | e
      · exact .inl e
      · exact .inr (.inr e)
    · rintro k (hk | ⟨j, hj, hk⟩)
      · exact .inl (.inl hk)
      · by_cases e : j = i
        · subst e
          rw [upd_same] at hk
          rcases G2.out with e | ⟨k', e, hk'⟩
          · rw [hk] at e; cases e
          · rw [hk] at e; cases e; exact .inr hk'
        · rw [upd_ne _ _ e] at hk
          exact .inl (.inr ⟨j, hj, hk⟩)
    · have h0 : Only (dfoot b V) w w' := ((Only.refl (fun _ => False) w).drew.trans' g3).mono fun _ _ h => h.elim
      exact (h0.setCell (.inl (.inl rfl)) _).setCell (.inl (.inl rfl)) _

end Go.Proofs.Ytcedenhfchcgiaa
