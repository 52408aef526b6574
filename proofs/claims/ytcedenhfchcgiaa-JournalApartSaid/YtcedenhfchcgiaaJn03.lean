/- A journal's Append, walked. -/
import Derived.Test.YtcedenhfchcgiaaJn02
import Derived.Deep.RegionLaw
import Derived.Deep.RegionHeld3
set_option linter.unusedVariables false
set_option linter.unusedSimpArgs false
namespace Go.Proofs.Ytcedenhfchcgiaa.Jn
open Go.RowKit

theorem info_int : (Try.prog.info? 3).map (fun i => (i.zero, i.size, i.bytes)) = some (some (.int .i64 0), 1, 8) := by kernel_rfl
/-- append of one number, as a step of a region that draws. -/
theorem step_int {w : World} {ops : Array Oper} {o : Oper} {a : Act} {K : Act → World → Prop} {Q : Exit → Act → World → Prop} {E : Prop} (hgd : o.guard = none) (s x : Operand)
    (ho : o.op = .call { callee := .builtin .append, args := #[s, x], argTypes := #[24, 24] })
    (v : Value) (n : Nat) (Es : List Value) (hsv : a.eval s = v) (hown : w.ownsRow 0 3 1 v n Es) (xv : Value) (hxv : a.eval x = xv) (V : Value) (hs : Src Try.prog 1 24 xv 1 [V] w) (hn : n ≤ 1000000)
    (h : ∀ v' w', w'.ownsRow 0 3 1 v' (n + 1) (Es ++ [V]) → w.grownBy w' v.ownBlock → (v'.ownBlock = v.ownBlock ∨ ∃ k, v'.ownBlock = some k ∧ w.heap.size ≤ k) → K (a.put o.dst v') w') :
    if Region.wanted o (yielded ops a.tmps) = true then Oper.wp Try.prog o a w K Q else E := by
  have hw : Region.wanted o (yielded ops a.tmps) = true := by simp [Region.wanted, hgd]
  rw [if_pos hw]
  obtain ⟨i0, hi, hz0, hz1, hz2⟩ := info_parts info_int
  obtain ⟨v', w', hr, h2, h3, h4, _⟩ := run_append_any (P := Try.prog) w 0 24 24 o.type 3 i0 (.int .i64 0) Try.underlying24 hi hz0 hz1 rfl v n Es hown xv 1 [V] hs (by simp only [maxLen]; omega) (by rw [hz2]; omega) (Nat.zero_le _)
  unfold Oper.wp execOp
  simp only [ho, resolve, invoke, builtin, Sem.run_bind, Sem.run_pure, Result.andThen_ok, List.map_toArray, List.map_cons, List.map_nil, hsv, hxv, hr]
  exact h v' w' h2 h3 h4
/-- append of one slice of bytes, as a step of a region that draws. -/
theorem step_rec {w : World} {ops : Array Oper} {o : Oper} {a : Act} {K : Act → World → Prop} {Q : Exit → Act → World → Prop} {E : Prop} (hgd : o.guard = none) (s x : Operand)
    (ho : o.op = .call { callee := .builtin .append, args := #[s, x], argTypes := #[22, 22] })
    (v : Value) (n : Nat) (Vs : List Value) (hsv : a.eval s = v) (hown : w.ownsRow 0 23 1 v n Vs) (xv : Value) (hxv : a.eval x = xv) (V : Value) (hs : Src Try.prog 1 22 xv 1 [V] w) (hn : n ≤ 1000000)
    (h : ∀ v' w', w'.ownsRow 0 23 1 v' (n + 1) (Vs ++ [V]) → w.grownBy w' v.ownBlock → (v'.ownBlock = v.ownBlock ∨ ∃ k, v'.ownBlock = some k ∧ w.heap.size ≤ k) → K (a.put o.dst v') w') :
    if Region.wanted o (yielded ops a.tmps) = true then Oper.wp Try.prog o a w K Q else E := by
  have hw : Region.wanted o (yielded ops a.tmps) = true := by simp [Region.wanted, hgd]
  rw [if_pos hw]
  obtain ⟨i0, hi, hz0, hz1, hz2⟩ := info_parts info_sl
  obtain ⟨v', w', hr, h2, h3, h4, _⟩ := run_append_any (P := Try.prog) w 0 22 22 o.type 23 i0 (.slice none 0 0) Try.underlying22 hi hz0 hz1 rfl v n Vs hown xv 1 [V] hs (by simp only [maxLen]; omega) (by rw [hz2]; omega) (Nat.zero_le _)
  unfold Oper.wp execOp
  simp only [ho, resolve, invoke, builtin, Sem.run_bind, Sem.run_pure, Result.andThen_ok, List.map_toArray, List.map_cons, List.map_nil, hsv, hxv, hr]
  exact h v' w' h2 h3 h4
theorem src_int (w : World) (g : Nat) (hg : g = w.heap.size) (z : Int) : Src Try.prog 1 24 (.slice (some ⟨g, 0, none⟩) 1 1) 1 [.int .i64 z] (w.alloc (.cells #[.int .i64 z] 3)) := by
  subst hg
  refine Src.ofSlice _ Try.underlying24 _ 1 1 _ rfl (fun j u hj => ?_) (fun u hu => by simp at hu; subst hu; rfl)
  rw [addr_eta _ rfl]
  simp only [Nat.zero_add]
  rw [cell_of_heap (heap_alloc_new w _)]
  simpa using hj

theorem frames_snoc (recs : List (List UInt8)) (l : List UInt8) : framesB (recs ++ [l]) = framesB recs ++ frameB l := by simp [framesB]
theorem strOf_frame (l : List UInt8) : [] ++ Cd.leb (Cd.strOf l).size ++ (Cd.strOf l).data.toList = frameB l := by
  rw [List.nil_append]
  unfold frameB
  have h1 : (Cd.strOf l).size = l.length := by simp [Cd.strOf, ByteArray.size]
  have h2 : (Cd.strOf l).data.toList = l := by simp [Cd.strOf]
  rw [h1, h2]
theorem frame_len {l : List UInt8} (h : l.length ≤ 1048576) : (frameB l).length ≤ 1048586 := by
  unfold frameB
  rw [List.length_append]
  have := Cd.leb_len10 (show l.length < 18446744073709551616 by omega)
  omega

theorem tags_ij : (3 : TypeId) ≠ 57 := by decide
theorem tags_sj : (23 : TypeId) ≠ 57 := by decide
theorem tags_uj : (5 : TypeId) ≠ 57 := by decide
theorem tags_is : (3 : TypeId) ≠ 23 := by decide
theorem tags_iu : (3 : TypeId) ≠ 5 := by decide
theorem own_ne {w : World} {b : Nat} {cs : Array Value} {t e : TypeId} {base size n : Nat} {v : Value} {xs : List Value} (h : w.heap[b]? = some (.cells cs t (0, 0))) (ho : w.ownsRow base e size v n xs) (hne : e ≠ t) : v.ownBlock ≠ some b := by
  intro hb
  obtain ⟨c, hc⟩ := owns_block ho hb
  rw [h] at hc
  injection hc with hc
  injection hc with _ hc
  exact hne hc.symm
theorem own_own {w : World} {e f : TypeId} {base base' size size' n m : Nat} {v V : Value} {xs ys : List Value} (h : w.ownsRow base e size v n xs) (h2 : w.ownsRow base' f size' V m ys) (hne : e ≠ f) : ∀ k, V.ownBlock = some k → v.ownBlock ≠ some k := by
  intro k h3 h4
  obtain ⟨c1, e1⟩ := owns_block h h4
  exact own_ne e1 h2 (fun e => hne e.symm) h3
theorem only_one (w : World) (q i : Nat) (u : Value) : Only (fun y => y = q) w (w.setCell ⟨q, i, none⟩ u) := (Only.refl (fun y => y = q) w).setCell (p := ⟨q, i, none⟩) (.inl rfl) u
theorem disk_keep {w w' : World} {b : Nat} {d : DS} {S T : Nat → Prop} (h : DiskIn w b d S) (ho : Only T w w') (hd : ∀ k, S k → ¬ T k) : DiskIn w' b d S :=
  h.elim fun hok hV => ⟨hok, hV.elim fun V hV => ⟨V, hV.1.only ho fun k hk => hd k (hV.2 k hk), hV.2⟩⟩

set_option maxRecDepth 100000 in
set_option maxHeartbeats 4000000 in
theorem jAppend_any {w : World} {b db : Nat} {file : Int} {recs : List (List UInt8)} {R S : Nat → Prop} {d : DS} (J : JIn w b db file recs R) (D : DiskIn w db d S) (hlt : FootLt w S) (hdis : ∀ k, R k → ¬ S k) (x : Value) (l : List UInt8) (hx : Rds w x (bytesV l))
    (hxS : ∀ k, rdBlock x = some k → ¬ S k ∧ ¬ R k) (hl : l.length ≤ 1048576) (hok : (d.append file (frameB l)).2 = 0) (hn : recs.length ≤ 1000) (hf : (framesB recs).length ≤ 1000000000) :
    Calls Try.prog 9 #[.pointer (some ⟨b, 0, none⟩), x] w fun e w' => e = .returned (.int .i64 0) ∧ ∃ R' S' : Nat → Prop, JIn w' b db file (recs ++ [l]) R' ∧ DiskIn w' db (d.append file (frameB l)).1 S' ∧ FootLt w' S' ∧ (∀ k, R' k → ¬ S' k) ∧
      Only (fun k => R k ∨ S k) w w' ∧ (∀ k, R' k → R k ∨ w.heap.size ≤ k) ∧ (∀ k, S' k → S k ∨ w.heap.size ≤ k) := by
  obtain ⟨XA, xn, xc, rfl⟩ := Cd.rds_form hx
  have hxn := (show xn = l.length by obtain ⟨A, c, e, _⟩ := hx; injection e with _ e _; rw [e, bytesV_length])
  subst hxn
  have hcv := Cd.run_str hx
  have HT := hide (Cd.appendText_any (w := w) (.slice none 0 0) [] (Cd.rds_nil _) (by simp) (Cd.strOf l) (by have : (Cd.strOf l).size = l.length := by simp [Cd.strOf, ByteArray.size]
                                                                                                             omega))
  rw [strOf_frame] at HT
  have HJ := hide J
  have HX := hide (And.intro hx hxS)
  have HD := hide (And.intro D (And.intro hlt hdis))
  have HL := hide (And.intro hok (And.intro hf (frame_len hl)))
  obtain ⟨RS, ES, Vs, Es, h1, h2, h3, h4, h5, h6, h7⟩ := J.at_
  have c4 := cell_of_heap h1 4
  simp at c4
  have hlI : ¬ (1048576 : Int) < l.length := by omega
  clear J D hlt hdis hx hxS hok hf h1 h2 h3 h4 h5 h6 h7
  go_enter Try.func9, Try.ntmps9
  go_wp2_with fail
  refine HT.out.mono ?_
  rintro e w1 ⟨v1, rfl, F⟩
  obtain ⟨A1, n1, cc1, rfl⟩ := own_form' F.own
  obtain rfl := Cd.own_n F.own
  have F1 := hide F
  have J1 := hide (HJ.out.only F.only fun _ _ => id)
  have D1 : Hid (DiskIn w1 db d S ∧ FootLt w1 S) := ⟨disk_keep HD.out.1 F.only fun _ _ => id, fun k hk => Nat.lt_of_lt_of_le (HD.out.2.1 k hk) F.only.size⟩
  have HA := hide (fun (W : World) (ho : Only (fun _ => False) w1 W) => append_any (w := W) (disk_keep D1.out.1 ho fun _ _ => id) (fun k hk => Nat.lt_of_lt_of_le (D1.out.2 k hk) ho.size) file (.slice A1 (frameB l).length cc1) (frameB l) (F.rds.only ho fun _ _ => id) (fun k hk hS => by have h1 := F.new k (rdBlock_own hk); have h2 := HD.out.2.1 k hS; omega) (by have := HL.out.2.2; unfold lim46; omega))
  obtain ⟨RS, ES, Vs, Es, h1, -⟩ := J1.out.at_
  have c0 := cell_of_heap h1 0
  have c1 := cell_of_heap h1 1
  simp at c0 c1
  clear F h1
  go_wp2
  go_region_held3 (fun W => W.cell? ⟨b, 0, none⟩ = some (.pointer (some ⟨db, 0, none⟩)) ∧ W.cell? ⟨b, 1, none⟩ = some (.int .i64 file)) (first | assumption | exact K0 | exact K1 | exact ⟨K0, K1⟩ | go_keep) ((go_at_call 14; go_loud (refine (HA.out w1.drew ((Only.refl _ _).drew)).mono ?_; rintro e w2 ⟨he, S1, hD2, hStp⟩; rw [HL.out.1] at he; subst he; have D2 := hide hD2; have ST := hide hStp; have K0 : w2.cell? ⟨b, 0, none⟩ = some (.pointer (some ⟨db, 0, none⟩)) := hStp.only.cell c0 (HD.out.2.2 b J1.out.foot); have K1 : w2.cell? ⟨b, 1, none⟩ = some (.int .i64 file) := hStp.only.cell c1 (HD.out.2.2 b J1.out.foot); clear hD2 hStp)))
  · try simp [Act.put]
    clear K0 K1
    obtain ⟨S2, hD3, hS2, hS21⟩ := D2.out.tight
    have O2 : Hid (Only S w1 w2) := ((Only.refl _ _).drew).trans' ST.out.only
    have J2 := hide (J1.out.only O2.out (fun k hk hS => HD.out.2.2 k hk hS))
    have D3 := hide (And.intro hD3 hS2)
    have HS2 : Hid (∀ k, S2 k → S k ∨ w.heap.size ≤ k) := fun k hk => (ST.out.foot k (hS21 k hk)).imp id fun h => Nat.le_trans F1.out.only.size h
    have HSz := hide (fun (W : World) (ho : Only (fun _ => False) w2 W) => size_any (J2.out.only ho fun _ _ => id) recs.length (Nat.le_refl _) (by omega))
    rw [List.take_length] at HSz
    obtain ⟨RS2, ES2, Vs2, Es2, q1, q2, q3, q4, q5, q6, q7⟩ := J2.out.at_
    obtain ⟨RA, rm, rc, rfl⟩ := own_form' q2
    obtain rfl := Cd.own_n q2
    obtain ⟨EA, em, ec, rfl⟩ := own_form' q4
    obtain rfl := Cd.own_n q4
    have c2 := cell_of_heap q1 2
    have c3 := cell_of_heap q1 3
    have z3 := frozen_of_heap q1 3
    simp at c2 c3
    obtain ⟨z, hz⟩ : ∃ z : Int, IntKind.i64.wrap (((framesB recs).length : Int) + ((frameB l).length : Int)) = z := ⟨_, rfl⟩
    have HZ : Hid (z = ((framesB (recs ++ [l])).length : Nat)) := by
      show _ = _
      rw [← hz, frames_snoc, List.length_append, IntKind.wrap_i64]
      have h1 := HL.out.2.1
      have h2 := HL.out.2.2
      omega
    have c3a : ∀ o, (w2.alloc o).cell? ⟨b, 3, none⟩ = some (.slice EA recs.length ec) := fun o => ((Only.refl (fun _ => False) w2).alloc o).cell c3 id
    have c3b : ∀ o, (w2.drew.alloc o).cell? ⟨b, 3, none⟩ = some (.slice EA recs.length ec) := fun o => (((Only.refl (fun _ => False) w2).drew).alloc o).cell c3 id
    have Q1 := hide q1
    have Q2 := hide q2
    have Q3 := hide q3
    have Q4 := hide q4
    have Q5 := hide q5
    have Q67 := hide (And.intro q6 q7)
    clear hD3 hS2 hS21 q1 q2 q3 q4 q5 q6 q7 c0 c1
    have P2 := hide ((Only.refl (fun _ => False) w2).drew)
    have P3 := hide (P2.out.alloc (.cells #[.int .i64 z] 3))
    go_wp2
    refine (fun (key : Hid (?Tail : Prop)) => ?main) ?hTail
    case main =>
      go_region_law (first
        | (refine step_int rfl _ _ rfl (.slice EA recs.length ec) recs.length Es2 rfl (P3.out.owns Q4.out fun _ _ => id) _ rfl (.int .i64 z) (src_int w2.drew _ (by first | rfl | simp) _) (by omega) ?_; intro v5 w5 g1 g2 g3; obtain ⟨EA5, em5, ec5, rfl⟩ := own_form' g1; have K5 : Hid (Only (fun k => (Value.slice EA recs.length ec).ownBlock = some k) w2 w5) := (P3.out.mono fun _ _ h => h.elim).grown g2 fun k hk => .inl hk; have B5 := hide (K5.out.heap Q1.out (own_ne Q1.out Q4.out tags_ij)); have k5a := cell_of_heap B5.out 3; have k5b := frozen_of_heap B5.out 3; simp at k5a; have G1 := hide g1; have G3 : Hid ((Value.slice EA5 em5 ec5).ownBlock = (Value.slice EA recs.length ec).ownBlock ∨ ∃ k, (Value.slice EA5 em5 ec5).ownBlock = some k ∧ w2.heap.size ≤ k) := g3.imp id (fun ⟨k, e, h⟩ => ⟨k, e, Nat.le_trans P3.out.size h⟩); clear g1 g2 g3)
        | (go_simp; go_at_call 23; go_loud (refine (HSz.out w2.drew P2.out).mono ?_; rintro e w3 ⟨rfl, rfl⟩)))
      all_goals
        try simp [Act.put]
        clear k5a k5b
        revert K5 B5 G1 G3
        revert w5 EA5 em5 ec5
        exact key.out
    case hTail =>
      refine hide ?_
      intro w5 EA5 em5 ec5 K5 B5 G1 G3
      have H6 := hide (heap_setCell_at B5.out 3 (.slice EA5 em5 ec5))
      have K6 : Hid (Only R w2 (w5.setCell ⟨b, 3, none⟩ (.slice EA5 em5 ec5))) := (K5.out.mono fun k _ hk => Q67.out.2 k hk).setCell (p := ⟨b, 3, none⟩) (.inl J2.out.foot) _
      obtain ⟨w6, hw6⟩ : ∃ w6, w5.setCell ⟨b, 3, none⟩ (.slice EA5 em5 ec5) = w6 := ⟨_, rfl⟩
      have hE6 : Hid (w6.ownsRow 0 3 1 (.slice EA5 em5 ec5) (recs.length + 1) (Es2 ++ [.int .i64 z])) := by rw [← hw6]; exact (only_one w5 b 3 _).owns G1.out fun k hk e => by subst e; exact own_ne B5.out G1.out tags_ij hk
      have hK6b : Hid (Only (fun k => (Value.slice EA recs.length ec).ownBlock = some k ∨ k = b) w2 w6) := by rw [← hw6]; exact (K5.out.mono fun k _ hk => .inl hk).trans' ((only_one w5 b 3 _).mono fun k _ hk => .inr hk)
      rw [hw6] at H6 K6 ⊢
      have hR6 : Hid (w6.ownsRow 0 23 1 (.slice RA recs.length rc) recs.length Vs2) := hK6b.out.owns Q2.out fun k hk h => h.elim (fun e => own_own Q4.out Q2.out tags_is k hk e) (fun e => by subst e; exact own_ne Q1.out Q2.out tags_sj hk)
      have hV6 : Hid (∀ i, i < recs.length → ∃ V, Vs2[i]? = some V ∧ RowB w6 V (recs.getD i []) ∧ ∀ k, V.ownBlock = some k → R k) := fun i hi => (Q3.out i hi).imp fun V hV => ⟨hV.1, hV.2.1.only hK6b.out fun k hk h => h.elim (fun e => RowB.apart Q4.out hV.2.1 tags_iu k hk e) (fun e => by subst e; exact RowB.ne Q1.out hV.2.1 tags_uj hk), hV.2.2⟩
      have hx6 : Hid (Rds w6 (.slice XA l.length xc) (bytesV l)) := ((HX.out.1.only F1.out.only fun _ _ => id).only O2.out fun k hk => (HX.out.2 k hk).1).only K6.out fun k hk => (HX.out.2 k hk).2
      have P6 := hide ((Only.refl (fun _ => False) w6).drew)
      have HC := hide (clone_any w6.drew _ l (hx6.out.only P6.out fun _ _ => id) (by unfold lim47; omega))
      have b2 := cell_of_heap H6.out 2
      have b2f := frozen_of_heap H6.out 2
      simp at b2
      clear c2 c3 c3a c3b z3 hw6
      go_wp2
      refine (fun (key : Hid (?Tail2 : Prop)) => ?main2) ?hTail2
      case main2 =>
        go_region_law (first
          | (refine step_rec rfl _ _ rfl (.slice RA recs.length rc) recs.length Vs2 rfl ((hO8.out.alloc _).owns hR6.out fun _ _ => id) _ rfl (.slice A8 n8 c8) (src_rec w8 _ (by first | rfl | simp) _ _ _) (by omega) ?_; intro v9 w9 g1 g2 g3; obtain ⟨A9, m9, c9, rfl⟩ := own_form' g1; have K9 : Hid (Only (fun k => (Value.slice RA recs.length rc).ownBlock = some k) w8 w9) := (((Only.refl (fun _ => False) w8).alloc (.cells #[.slice A8 n8 c8] 23)).mono fun _ _ h => h.elim).grown g2 fun k hk => .inl hk; have B9 := hide (K9.out.heap (hO8.out.heap H6.out id) (own_ne H6.out hR6.out tags_sj)); have k9a := cell_of_heap B9.out 2; have k9b := frozen_of_heap B9.out 2; simp at k9a; have G1 := hide g1; have G3 : Hid ((Value.slice A9 m9 c9).ownBlock = (Value.slice RA recs.length rc).ownBlock ∨ ∃ k, (Value.slice A9 m9 c9).ownBlock = some k ∧ w8.heap.size ≤ k) := g3.imp id (fun ⟨k, e, h⟩ => ⟨k, e, Nat.le_trans (by simp) h⟩); clear g1 g2 g3)
          | (go_simp; go_at_call 24; go_loud (refine HC.out.mono ?_; rintro e w8 ⟨v8, rfl, hown, hnew, hO⟩; obtain ⟨A8, n8, c8, rfl⟩ := own_form' hown; have hO8 := hide (P6.out.trans' hO); have U8 := hide (And.intro hown hnew); have b8 := hO8.out.cell b2 id; have b8a : ∀ o, (w8.alloc o).cell? ⟨b, 2, none⟩ = some (.slice RA recs.length rc) := (fun o => (hO8.out.alloc o).cell b2 id); clear hown hnew hO)))
        all_goals
          try simp [Act.put]
          clear k9a k9b b8 b8a
          revert hO8 U8 K9 B9 G1 G3
          revert w8 A8 n8 c8 w9 A9 m9 c9
          exact key.out
      case hTail2 =>
        refine hide ?_
        intro w8 A8 n8 c8 w9 A9 m9 c9 hO8 U8 K9 B9 H1 H3
        have hE9 := hide (K9.out.owns (hO8.out.owns hE6.out fun _ _ => id) (own_own (hO8.out.owns hR6.out fun _ _ => id) (hO8.out.owns hE6.out fun _ _ => id) (fun e => tags_is e.symm)))
        have hV9 : Hid (∀ i, i < recs.length → ∃ V, Vs2[i]? = some V ∧ RowB w9 V (recs.getD i []) ∧ ∀ k, V.ownBlock = some k → R k) := fun i hi => (hV6.out i hi).imp fun V hV => ⟨hV.1, (hV.2.1.grow hO8.out).only K9.out (RowB.apart (hO8.out.owns hR6.out fun _ _ => id) (hV.2.1.grow hO8.out) (fun e => tags e.symm)), hV.2.2⟩
        have hN9 := hide (K9.out.owns U8.out.1 (own_own (hO8.out.owns hR6.out fun _ _ => id) U8.out.1 (fun e => tags e.symm)))
        have hKw : Hid (∀ u, Only R w2 (w9.setCell ⟨b, 2, none⟩ u)) := fun u => ((K6.out.trans' (hO8.out.mono fun _ _ h => h.elim)).trans' (K9.out.mono fun k _ hk => Q67.out.1 k hk)).setCell (p := ⟨b, 2, none⟩) (.inl J2.out.foot) u
        go_wp2
        go_ret
        have one := only_one w9 b 2 (.slice A9 m9 c9)
        have hs1 := J1.out.low
        refine ⟨rfl, fun k => R k ∨ (w2.heap.size ≤ k ∧ k < w9.heap.size), S2, ⟨⟨.slice A9 m9 c9, .slice EA5 em5 ec5, Vs2 ++ [.slice A8 n8 c8], Es2 ++ [.int .i64 z], ?_, ?_, ?_, ?_, ?_, ?_, ?_⟩, .inl J2.out.foot, ?_⟩, ?_, ?_, ?_, ?_, ?_, ?_⟩
        · rw [heap_setCell_at B9.out]; simp
        · rw [List.length_append]; exact one.owns H1.out fun k hk e => by subst e; exact own_ne B9.out H1.out tags_sj hk
        · intro i hi
          have hle : Vs2.length = recs.length := by have := Q2.out.1; omega
          by_cases e : i < recs.length
          · obtain ⟨V, e1, e2, e3⟩ := hV9.out i e
            refine ⟨V, by rw [List.getElem?_append_left (by omega)]; exact e1, ?_, fun k hk => .inl (e3 k hk)⟩
            rw [List.getD_eq_getElem?_getD, List.getElem?_append_left e, ← List.getD_eq_getElem?_getD]
            exact e2.only one fun k hk e => by subst e; exact RowB.ne B9.out e2 tags_uj hk
          · have e2 : i = recs.length := by rw [List.length_append] at hi; simp at hi; omega
            subst e2
            refine ⟨.slice A8 n8 c8, by rw [List.getElem?_append_right (by omega), hle]; simp, ?_, fun k hk => .inr ⟨?_, ?_⟩⟩
            · rw [List.getD_eq_getElem?_getD, List.getElem?_append_right (Nat.le_refl _)]
              simp only [Nat.sub_self, List.getElem?_cons_zero, Option.getD_some]
              exact RowB.own (one.owns hN9.out fun k hk e => by subst e; exact own_ne B9.out hN9.out tags_uj hk)
            · rcases U8.out.2 with e | ⟨y, e, hy⟩
              · rw [hk] at e; cases e
              · rw [hk] at e; injection e with e; have := K6.out.size; simp at hy; omega
            · obtain ⟨c, hc⟩ := owns_block hN9.out hk
              exact heap_lt hc
        · rw [List.length_append]; exact one.owns hE9.out fun k hk e => by subst e; exact own_ne B9.out hE9.out tags_ij hk
        · intro i hi
          have hle : Es2.length = recs.length := by have := Q4.out.1; omega
          by_cases e : i < recs.length
          · rw [List.getElem?_append_left (by omega), Q5.out i e, List.take_append_of_le_length (by omega)]
          · have e2 : i = recs.length := by rw [List.length_append] at hi; simp at hi; omega
            subst e2
            rw [List.getElem?_append_right (by omega), hle, HZ.out, List.take_of_length_le (by rw [List.length_append]; simp)]
            simp
        · intro k hk
          rcases H3.out with e | ⟨y, e, hy⟩
          · exact .inl (Q67.out.1 k (by rw [← e]; exact hk))
          · rw [hk] at e; injection e with e
            obtain ⟨c, hc⟩ := owns_block H1.out hk
            exact .inr ⟨by have := K6.out.size; have := hO8.out.size; omega, heap_lt hc⟩
        · intro k hk
          rcases G3.out with e | ⟨y, e, hy⟩
          · exact .inl (Q67.out.2 k (by rw [← e]; exact hk))
          · rw [hk] at e; injection e with e
            obtain ⟨c, hc⟩ := owns_block hE9.out hk
            exact .inr ⟨by omega, heap_lt hc⟩
        · intro k hk
          have h1 := (hKw.out (.slice A9 m9 c9)).size
          have h2 := one.size
          rcases hk with hk | hk
          · have := J2.out.low k hk; omega
          · omega
        · exact disk_keep D3.out.1 (hKw.out _) fun k hk hr => by
            rcases HS2.out k hk with h | h
            · exact HD.out.2.2 k hr h
            · have := HJ.out.low k hr; omega
        · exact fun k hk => Nat.lt_of_lt_of_le (D3.out.2 k hk) (hKw.out _).size
        · intro k hk h2
          rcases hk with hk | hk
          · rcases HS2.out k h2 with h | h
            · exact HD.out.2.2 k hk h
            · have := HJ.out.low k hk; omega
          · have := D3.out.2 k h2; omega
        · exact ((F1.out.only.mono fun _ _ h => h.elim).trans' (O2.out.mono fun k _ h => .inr h)).trans' ((hKw.out _).mono fun k _ h => .inl h)
        · rintro k (hk | hk)
          · exact .inl hk
          · have h1 := F1.out.only.size; have h2 := O2.out.size; exact .inr (by omega)
        · exact HS2.out

end Go.Proofs.Ytcedenhfchcgiaa.Jn
