/- Words for the laws' walks: Rewrite and Open of a journal that was made since, append of whole lists of records. -/
import Derived.Test.YtcedenhfchcgiaaJn12
set_option linter.unusedVariables false
set_option linter.unusedSimpArgs false
namespace Go.Proofs.Ytcedenhfchcgiaa.Jn
open Go.RowKit Go.Shelf

theorem JS.rewrite {w0 wa w : World} {b db f : Nat} {recs0 recs : List (List UInt8)} {d : DS} {R S T : Nat → Prop} (h : JS w0 wa b db f recs0 d R S) (ho : Only (fun _ => False) wa w) (hf : f < 8) (A : Option Addr) (n c : Nat) (hx : RdRecs w A n recs T)
    (hT : ∀ k, T k → k < w0.heap.size ∨ wa.heap.size ≤ k) (hs : Small recs) (hn : recs.length ≤ 1000) (hfr : (framesB recs).length ≤ 4000) (hu : d.used + (framesB recs).length ≤ d.room) :
    Calls Try.prog 16 #[.pointer (some ⟨b, 0, none⟩), .slice A n c] w (JSEnd w0 w R S b db f recs d.room (d.used + (framesB recs).length)) := by
  refine (jRewrite_any (h.grow ho).jd h.calm hf A n c recs hx (fun k hk => ?_) hs hn hfr hu).mono fun e w' hE => (h.grow ho).ended hE
  rcases hT k hk with h1 | h1
  · exact ⟨fun h2 => by have := h.newS k h2; omega, fun h2 => by have := h.newR k h2; omega⟩
  · exact ⟨fun h2 => by have := h.jd.low k h2; omega, fun h2 => by have := h.jd.jin.low k h2; omega⟩
/-- How a later Open ends. -/
def JSOpen (w0 w : World) (S0 : Nat → Prop) (db f : Nat) (recs : List (List UInt8)) (room used : Nat) (e : Ending) (w' : World) : Prop :=
  ∃ (b : Nat) (R S : Nat → Prop) (d : DS), e = .returned (.tuple #[.pointer (some ⟨b, 0, none⟩), .int .i64 0]) ∧ JS w0 w' b db f recs d R S ∧ d.room = room ∧ d.used ≤ used ∧ Only S0 w w'
theorem open_js {w0 w : World} {db f : Nat} {recs : List (List UInt8)} {d : DS} {S : Nat → Prop} (D : DiskIn w db d S) (hlt : FootLt w S) (hf : f < 8) (hc : Calm d) (rest : List UInt8) (hdata : d.data f = framesB recs ++ rest) (hs : Small recs) (ht : Torn rest) (hn : recs.length ≤ 1000)
    (hS : ∀ x, S x → w0.heap.size ≤ x) (ho : Only (fun _ => False) w0 w) : Calls Try.prog 8 #[.pointer (some ⟨db, 0, none⟩), .int .i64 f] w (JSOpen w0 w S db f recs d.room d.used) := by
  refine (open_any D hlt hf hc recs rest hdata hs ht hn).mono ?_
  rintro e w' ⟨b, R', S', d', he, h1, h2, h3, h4, h5, h6, h7, h8⟩
  have hz := ho.size
  exact ⟨b, R', S', d', he, ⟨h1, h5, fun x hx => Nat.le_trans hz (h2 x hx), fun x hx => (h4 x hx).elim (hS x) fun h => Nat.le_trans hz h, ho.trans h3 fun x hx e => by have := hS x e; omega, by rw [h7, upd_same]⟩, h6, h8, h3⟩
theorem JS.reopen {w0 w : World} {b db f : Nat} {recs : List (List UInt8)} {d : DS} {R S : Nat → Prop} (h : JS w0 w b db f recs d R S) (hf : f < 8) (hs : Small recs) (hn : recs.length ≤ 1000) :
    Calls Try.prog 8 #[.pointer (some ⟨db, 0, none⟩), .int .i64 f] w (JSOpen w0 w S db f recs d.room d.used) :=
  open_js h.jd.disk h.jd.low hf h.calm [] (by rw [h.data, List.append_nil]) hs torn_nil hn h.newS h.only

theorem choose_list {α β : Type} (n : Nat) (d : α) (f : α → Nat → Prop) (h : ∀ i, i < n → ∃ a, f a i) : ∃ l : List α, l.length = n ∧ ∀ i, i < n → f (l.getD i d) i := by
  induction n with
  | zero => exact ⟨[], rfl, fun i hi => by omega⟩
  | succ n ih =>
    obtain ⟨l, h1, h2⟩ := ih fun i hi => h i (by omega)
    obtain ⟨a, ha⟩ := h n (by omega)
    refine ⟨l ++ [a], by simp [h1], fun i hi => ?_⟩
    by_cases e : i < n
    · rw [List.getD_eq_getElem?_getD, List.getElem?_append_left (by omega), ← List.getD_eq_getElem?_getD]
      exact h2 i e
    · obtain rfl : i = n := by omega
      rw [List.getD_eq_getElem?_getD, List.getElem?_append_right (by omega), h1]
      simpa using ha
/-- The slices that a list of records holds, as values. -/
theorem RdRecs.vals {w w' : World} {A : Option Addr} {n : Nat} {recs : List (List UInt8)} {T : Nat → Prop} (h : RdRecs w A n recs T) (ho : Only (fun _ => False) w w') (c : Nat) (hnc : n ≤ c) : ∃ Vs : List Value, Vs.length = n ∧ Src Try.prog 1 22 (.slice A n c) n Vs w' ∧ ∀ i, i < n → ∃ V, Vs[i]? = some V ∧ Rds w V (bytesV (recs.getD i [])) := by
  have hn := h.len
  obtain ⟨Vs, hl, hall⟩ := choose_list (α := Value) (β := Unit) n (.int .i64 0) (fun V i => ∃ b o, A = some ⟨b, o, none⟩ ∧ w.cell? ⟨b, o + i, none⟩ = some V ∧ Rds w V (bytesV (recs.getD i []))) (fun i hi => by
    obtain ⟨b, o, V, h1, _, h2, h3, _⟩ := h.at_ i (by omega)
    exact ⟨V, b, o, h1, h2, h3⟩)
  have hget : ∀ i, i < n → Vs[i]? = some (Vs.getD i (.int .i64 0)) := fun i hi => by rw [List.getD_eq_getElem?_getD, List.getElem?_eq_getElem (by omega)]; rfl
  refine ⟨Vs, hl, ?_, fun i hi => ⟨_, hget i hi, (hall i hi).elim fun b h => h.elim fun o h => h.2.2⟩⟩
  have hone : ∀ u ∈ Vs, u.oneCell' = true := fun u hu => by
    obtain ⟨i, hi, rfl⟩ := List.getElem_of_mem hu
    obtain ⟨b, o, _, _, h3⟩ := hall i (by omega)
    rw [List.getD_eq_getElem?_getD, List.getElem?_eq_getElem hi] at h3
    obtain ⟨A, c, e, _⟩ := h3
    simp only [Option.getD_some] at e
    rw [e]
    rfl
  rcases Nat.eq_zero_or_pos n with h0 | h0
  · subst h0
    obtain rfl := List.eq_nil_of_length_eq_zero hl
    cases A with
    | none => exact Src.ofNil w' Try.underlying22 c
    | some a => exact Src.ofSlice w' Try.underlying22 a 0 c [] rfl (fun j u hj => by cases hj) (fun u hu => by cases hu)
  · obtain ⟨b, o, hA, _⟩ := hall 0 h0
    subst hA
    refine Src.ofSlice w' Try.underlying22 _ n c Vs (by omega) (fun j u hj => ?_) hone
    have hj' : j < n := by have := (List.getElem?_eq_some_iff.1 hj).1; omega
    obtain ⟨b', o', hA, h2, _⟩ := hall j hj'
    injection hA with hA
    injection hA with e1 e2 e3
    subst e1 e2
    rw [hget j hj'] at hj
    injection hj with hj
    rw [addr_eta _ rfl, ← hj]
    exact ho.cell h2 id
/-- Behind an append whose guard says yes. -/
theorem wpList_append_want {P : Program} {w : World} {ops : Array Oper} {rest : List Oper} {o : Oper} {a : Act} {Q : Exit → Act → World → Prop} (hgd : Region.wanted o (yielded ops a.tmps) = true) (s x : Operand) (t tx : TypeId)
    (ho : o.op = .call { callee := .builtin .append, args := #[s, x], argTypes := #[t, tx] })
    (base : Nat) (e : TypeId) (i : TypeInfo) (z : Value) (ht : P.underlying t = some (.slice e)) (hi : P.info? e = some i) (hz : i.zero = some z) (hsize : i.size = 1) (hzs : z.cells.size = 1)
    (v : Value) (n : Nat) (xs : List Value) (hsv : a.eval s = v) (hown : w.ownsRow base e 1 v n xs) (xv : Value) (hxv : a.eval x = xv) (m : Nat) (news : List Value) (hs : Src P 1 tx xv m news w)
    (h63 : n + m ≤ maxLen) (hbytes : (n + m) * i.bytes ≤ 140737488355328) (hbase : base ≤ w.heap.size)
    (h : ∀ v' w', w'.ownsRow base e 1 v' (n + m) (xs ++ news) → w.grownBy w' v.ownBlock → (v'.ownBlock = v.ownBlock ∨ ∃ k, v'.ownBlock = some k ∧ w.heap.size ≤ k) → wpList P ops Q rest (a.put o.dst v') w') : wpList P ops Q (o :: rest) a w :=
  BigFrame.wpList_want hgd fun _ hK => by
    obtain ⟨v', w', hr, h2, h3, h4, _⟩ := run_append_any (P := P) w base t tx o.type e i z ht hi hz hsize hzs v n xs hown xv m news hs h63 hbytes hbase
    unfold Oper.wp execOp
    simp only [ho, resolve, invoke, builtin, Sem.run_bind, Sem.run_pure, Result.andThen_ok, List.map_toArray, List.map_cons, List.map_nil, hsv, hxv, hr]
    exact hK _ _ (h v' w' h2 h3 h4)
/-- append of a whole list of slices. -/
theorem wp_recs {w : World} {ops : Array Oper} {rest : List Oper} {o : Oper} {a : Act} {Q : Exit → Act → World → Prop} (hgd : Region.wanted o (yielded ops a.tmps) = true) (s x : Operand)
    (ho : o.op = .call { callee := .builtin .append, args := #[s, x], argTypes := #[22, 22] })
    (v : Value) (n : Nat) (Vs : List Value) (hsv : a.eval s = v) (hown : w.ownsRow 0 23 1 v n Vs) (xv : Value) (hxv : a.eval x = xv) (m : Nat) (Us : List Value) (hs : Src Try.prog 1 22 xv m Us w) (hn : n + m ≤ 1000000)
    (h : ∀ v' w', w'.ownsRow 0 23 1 v' (n + m) (Vs ++ Us) → w.grownBy w' v.ownBlock → (v'.ownBlock = v.ownBlock ∨ ∃ k, v'.ownBlock = some k ∧ w.heap.size ≤ k) → wpList Try.prog ops Q rest (a.put o.dst v') w') : wpList Try.prog ops Q (o :: rest) a w := by
  obtain ⟨i0, hi, hz0, hz1, hz2⟩ := info_parts info_sl
  exact wpList_append_want hgd s x 22 22 ho 0 23 i0 (.slice none 0 0) Try.underlying22 hi hz0 hz1 rfl v n Vs hsv hown xv hxv m Us hs (by simp only [maxLen]; omega) (by rw [hz2]; omega) (Nat.zero_le _) h
theorem CutV.pushAll {w wr w2 : World} {v v' : Value} {recs more : List (List UInt8)} {Vs Us : List Value} (h : CutV w wr v recs) (hU : ∀ i, i < more.length → ∃ V, Us[i]? = some V ∧ Rds w V (bytesV (more.getD i [])))
    (h1 : wr.ownsRow 0 23 1 v recs.length Vs) (h2 : ∀ i, i < recs.length → ∃ V, Vs[i]? = some V ∧ Rds w V (bytesV (recs.getD i [])))
    (g1 : w2.ownsRow 0 23 1 v' (recs.length + more.length) (Vs ++ Us)) (g2 : wr.grownBy w2 v.ownBlock) (g3 : v'.ownBlock = v.ownBlock ∨ ∃ k, v'.ownBlock = some k ∧ wr.heap.size ≤ k) : CutV w w2 v' (recs ++ more) := by
  have hl : Vs.length = recs.length := by have := h1.1; omega
  refine ⟨⟨_, by rw [List.length_append]; exact g1, fun i hi => ?_⟩, h.only.grown g2 fun k hk => .inr (h.new k hk), fun k hk => ?_⟩
  · by_cases e : i < recs.length
    · obtain ⟨X, e1, e2⟩ := h2 i e
      refine ⟨X, by rw [List.getElem?_append_left (by omega)]; exact e1, ?_⟩
      rw [List.getD_eq_getElem?_getD, List.getElem?_append_left e, ← List.getD_eq_getElem?_getD]
      exact e2
    · obtain ⟨X, e1, e2⟩ := hU (i - recs.length) (by rw [List.length_append] at hi; omega)
      refine ⟨X, by rw [List.getElem?_append_right (by omega), hl]; exact e1, ?_⟩
      rw [List.getD_eq_getElem?_getD, List.getElem?_append_right (by omega), ← List.getD_eq_getElem?_getD]
      exact e2
  · rcases g3 with g3 | ⟨y, g3, hy⟩
    · exact h.new k (by rw [← g3, hk])
    · rw [hk] at g3; injection g3 with g3
      have := h.only.size
      omega
theorem cutV_empty (w : World) : CutV w (w.alloc (.cells #[] 23)) (.slice (some ⟨w.heap.size, 0, none⟩) 0 0) [] := by
  refine ⟨⟨[], ⟨rfl, .inr ⟨w.heap.size, 0, #[], rfl, Nat.zero_le _, heap_alloc_new w _, Nat.le_refl _, by simp [maxLen], by simp, by simp⟩⟩, fun i hi => by cases hi⟩, (Only.refl _ w).alloc _, fun k hk => ?_⟩
  cases hk
  exact Nat.le_refl _
theorem frames_bound {recs : List (List UInt8)} (n : Nat) (h : ∀ i, i < recs.length → (recs.getD i []).length ≤ 300) (hn : recs.length ≤ n) : (framesB recs).length ≤ n * 310 := by
  induction recs generalizing n with
  | nil => simp [framesB]
  | cons r recs ih =>
    obtain ⟨m, rfl⟩ : ∃ m, n = m + 1 := ⟨n - 1, by simp at hn; omega⟩
    have h1 := ih m (fun i hi => by have := h (i + 1) (by simp; omega); simpa using this) (by simp at hn; omega)
    have h2 := h 0 (by simp)
    have h3 : (frameB r).length ≤ 310 := by
      unfold frameB
      rw [List.length_append]
      have := Cd.leb_len10 (show r.length < 18446744073709551616 by simp at h2; omega)
      simp at h2
      omega
    have e : framesB (r :: recs) = frameB r ++ framesB recs := by simp [framesB]
    rw [e, List.length_append]
    omega

end Go.Proofs.Ytcedenhfchcgiaa.Jn
