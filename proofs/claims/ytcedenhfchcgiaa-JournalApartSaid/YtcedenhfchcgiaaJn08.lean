/- journal.scan, walked: of a file that holds whole records and then perhaps a torn one. -/
import Derived.Test.YtcedenhfchcgiaaJn07b
set_option linter.unusedVariables false
set_option linter.unusedSimpArgs false
namespace Go.Proofs.Ytcedenhfchcgiaa.Jn
open Go.RowKit Go.Shelf
attribute [local go_sem] Oper.semAt_some

/-! ### A region that draws, in a round -/
theorem wpAnyIn_round {F : Fence} {n l : Nat} {P : Program} {md : Region.Mode} {ops : Array Oper} {Q : Exit → Act → World → Prop} (hd : ∀ o ∈ ops.toList, ∀ c, o.op ≠ .defer c) :
    ∀ (fuel : Nat) (listed : Array Bool) (a : Act) (w : World), wpAnyIn F n P md ops Q fuel listed a w → F.round = none → wpAnyIn (F.inRound l) n P md ops Q fuel listed a w := by
  intro fuel
  induction fuel with
  | zero => exact fun listed a w h _ => h
  | succ fuel ih =>
    intro listed a w h hro
    refine ⟨h.1, fun i hi => ?_⟩
    have hi := h.2 i hi
    unfold wpOpIn at hi ⊢
    cases ho : ops[i]? with
    | none => rw [ho] at hi; exact ih _ _ _ hi hro
    | some o =>
      rw [ho] at hi
      simp only at hi ⊢
      split
      · rename_i hw
        rw [if_pos hw] at hi
        have hsem : Oper.semAt (F.inRound l).round a.eval o = Oper.semAt F.round a.eval o := by
          rw [Oper.semAt_eq _ _ _ (hd o (by simpa using Array.mem_of_getElem? ho)), Oper.semAt_eq _ _ _ (hd o (by simpa using Array.mem_of_getElem? ho))]
        have hi2 : Oper.wpIn (F.inRound l) n P o a w (wpAnyIn F n P md ops Q fuel (listed.setIfInBounds i true)) Q := ⟨hi.1, by rw [hsem]; exact hi.2⟩
        exact Oper.wpIn_mono (fun a w h => ih _ a w h hro) hi2
      · rename_i hw
        rw [if_neg hw] at hi
        exact ⟨hi.1, ih _ _ _ hi.2 hro⟩
theorem region_round {n l id : Nat} {P : Program} {ops : Array Oper} {Q : Exit → Act → World → Prop} {a : Act} {w : World} (hd : ∀ o ∈ ops.toList, ∀ c, o.op ≠ .defer c) (hm : P.follows .mixedOrders = true)
    (h : wpAnyIn Fence.wide n P .any ops Q ops.size (Array.replicate ops.size false) a w.drew) : (Code.region id ops true).wpIn (Fence.wide.inRound l) n P Q a w :=
  wpIn_region_any hm (wpAnyIn_round hd _ _ _ _ h rfl)

theorem stepIn_rec {w : World} {n0 : Nat} {ops : Array Oper} {o : Oper} {a : Act} {K : Act → World → Prop} {Q : Exit → Act → World → Prop} {E : Prop} (hgd : o.guard = none) (s x : Operand)
    (ho : o.op = .call { callee := .builtin .append, args := #[s, x], argTypes := #[22, 22] })
    (v : Value) (n : Nat) (Vs : List Value) (hsv : a.eval s = v) (hown : w.ownsRow 0 23 1 v n Vs) (xv : Value) (hxv : a.eval x = xv) (V : Value) (hs : Src Try.prog 1 22 xv 1 [V] w) (hn : n ≤ 1000000)
    (h : ∀ v' w', w'.ownsRow 0 23 1 v' (n + 1) (Vs ++ [V]) → w.grownBy w' v.ownBlock → (v'.ownBlock = v.ownBlock ∨ ∃ k, v'.ownBlock = some k ∧ w.heap.size ≤ k) → K (a.put o.dst v') w') :
    if Region.wanted o (yielded ops a.tmps) = true then Oper.wpIn Fence.wide n0 Try.prog o a w K Q else E := by
  have hw : Region.wanted o (yielded ops a.tmps) = true := by simp [Region.wanted, hgd]
  rw [if_pos hw]
  obtain ⟨i0, hi, hz0, hz1, hz2⟩ := info_parts info_sl
  obtain ⟨v', w', hr, h2, h3, h4, _⟩ := run_append_any (P := Try.prog) w 0 22 22 o.type 23 i0 (.slice none 0 0) Try.underlying22 hi hz0 hz1 rfl v n Vs hown xv 1 [V] hs (by simp only [maxLen]; omega) (by rw [hz2]; omega) (Nat.zero_le _)
  refine ⟨fun _ _ => trivial, ?_⟩
  rw [Fence.wide_round, Oper.semAt_none]
  unfold execOp
  simp only [ho, resolve, invoke, builtin, Sem.run_bind, Sem.run_pure, Result.andThen_ok, List.map_toArray, List.map_cons, List.map_nil, hsv, hxv, hr]
  exact h v' w' h2 h3 h4
theorem stepIn_int {w : World} {n0 : Nat} {ops : Array Oper} {o : Oper} {a : Act} {K : Act → World → Prop} {Q : Exit → Act → World → Prop} {E : Prop} (hgd : o.guard = none) (s x : Operand)
    (ho : o.op = .call { callee := .builtin .append, args := #[s, x], argTypes := #[24, 24] })
    (v : Value) (n : Nat) (Es : List Value) (hsv : a.eval s = v) (hown : w.ownsRow 0 3 1 v n Es) (xv : Value) (hxv : a.eval x = xv) (V : Value) (hs : Src Try.prog 1 24 xv 1 [V] w) (hn : n ≤ 1000000)
    (h : ∀ v' w', w'.ownsRow 0 3 1 v' (n + 1) (Es ++ [V]) → w.grownBy w' v.ownBlock → (v'.ownBlock = v.ownBlock ∨ ∃ k, v'.ownBlock = some k ∧ w.heap.size ≤ k) → K (a.put o.dst v') w') :
    if Region.wanted o (yielded ops a.tmps) = true then Oper.wpIn Fence.wide n0 Try.prog o a w K Q else E := by
  have hw : Region.wanted o (yielded ops a.tmps) = true := by simp [Region.wanted, hgd]
  rw [if_pos hw]
  obtain ⟨i0, hi, hz0, hz1, hz2⟩ := info_parts info_int
  obtain ⟨v', w', hr, h2, h3, h4, _⟩ := run_append_any (P := Try.prog) w 0 24 24 o.type 3 i0 (.int .i64 0) Try.underlying24 hi hz0 hz1 rfl v n Es hown xv 1 [V] hs (by simp only [maxLen]; omega) (by rw [hz2]; omega) (Nat.zero_le _)
  refine ⟨fun _ _ => trivial, ?_⟩
  rw [Fence.wide_round, Oper.semAt_none]
  unfold execOp
  simp only [ho, resolve, invoke, builtin, Sem.run_bind, Sem.run_pure, Result.andThen_ok, List.map_toArray, List.map_cons, List.map_nil, hsv, hxv, hr]
  exact h v' w' h2 h3 h4

theorem tags_sp : (23 : TypeId) ≠ 32 := by decide
theorem tags_ip : (3 : TypeId) ≠ 32 := by decide
/-! ### scan -/
/-- The world in which scan's loop begins. -/
def scanW (w : World) (b : Nat) (A : Option Addr) (n c : Nat) : World :=
  ((w.alloc (.cells #[.pointer (some ⟨b, 0, none⟩)] 32)).alloc (.cells #[.int .i64 n, .bool false] 59)).alloc (.cells #[.slice A n c] 23)
theorem scanW_facts (w : World) (b : Nat) (A : Option Addr) (n c : Nat) :
    (scanW w b A n c).heap[w.heap.size]? = some (.cells #[.pointer (some ⟨b, 0, none⟩)] 32 (0, 0)) ∧ (scanW w b A n c).heap[w.heap.size + 1]? = some (.cells #[.int .i64 n, .bool false] 59 (0, 0)) ∧
    (scanW w b A n c).heap[w.heap.size + 1 + 1]? = some (.cells #[.slice A n c] 23 (0, 0)) ∧ (scanW w b A n c).heap.size = w.heap.size + 1 + 1 + 1 := by
  unfold scanW World.alloc
  simp only [Array.getElem?_push, Array.size_push]
  refine ⟨?_, ?_, ?_, ?_⟩ <;> simp <;> first | omega | (rw [if_neg (by omega), if_neg (by omega)]; simp) | (rw [if_neg (by omega)]; simp) | skip
theorem scanW_only (w : World) (b : Nat) (A : Option Addr) (n c : Nat) : Only (fun _ => False) w (scanW w b A n c) := (((Only.refl _ w).alloc _).alloc _).alloc _

/-- Between two rounds of scan. -/
structure SI (w : World) (b db : Nat) (file : Int) (recs : List (List UInt8)) (bv : Value) (fb : List UInt8) (k : Nat) (W : World) : Prop where
  jin : ∃ R, JIn W b db file (recs.take k) R ∧ ∀ x, R x → x = b ∨ w.heap.size + 1 + 1 + 1 + 2 ≤ x
  only : Only (fun x => x = b) w W
  box2 : W.heap[w.heap.size]? = some (.cells #[.pointer (some ⟨b, 0, none⟩)] 32 (0, 0))
  box4 : W.heap[w.heap.size + 1]? = some (.cells #[.int .i64 fb.length, .bool false] 59 (0, 0))
  boxb : W.heap[w.heap.size + 1 + 1]? = some (.cells #[bv] 23 (0, 0))
  rds : Rds W bv (bytesV fb)
theorem SI.only' {w : World} {b db : Nat} {file : Int} {recs : List (List UInt8)} {bv : Value} {fb : List UInt8} {k : Nat} {W W' : World} (h : SI w b db file recs bv fb k W) (hbw : b < w.heap.size) (hbb : ∀ x, rdBlock bv = some x → x < w.heap.size)
    (ho : Only (fun x => x = w.heap.size + 1 + 1 + 1 ∨ x = w.heap.size + 1 + 1 + 1 + 1) W W') : SI w b db file recs bv fb k W' := by
  obtain ⟨R, h1, h2⟩ := h.jin
  exact ⟨⟨R, h1.only ho fun x hx e => by have := h2 x hx; omega, h2⟩, h.only.trans ho fun x hx e => by omega, ho.heap h.box2 (by omega), ho.heap h.box4 (by omega), ho.heap h.boxb (by omega), h.rds.only ho fun x hx e => by have := hbb x hx; omega⟩

theorem scan_step {w W w6 w9 : World} {b db : Nat} {file : Int} {recs : List (List UInt8)} {A RA RA5 EA EA8 VA : Option Addr} {n c rc rc5 ec ec8 vn vc k : Nat} {fb : List UInt8} {R1 : Nat → Prop} {Vs Es : List Value}
    (hbw : b < w.heap.size) (hsi : SI w b db file recs (.slice A n c) fb k W) (hk : k < recs.length) (hR1 : ∀ x, R1 x → x = b ∨ w.heap.size + 1 + 1 + 1 + 2 ≤ x) (hLow : ∀ x, R1 x → x < W.heap.size) (hFt : R1 b)
    (q67 : (∀ x, (Value.slice RA k rc).ownBlock = some x → R1 x) ∧ ∀ x, (Value.slice EA k ec).ownBlock = some x → R1 x) (q5 : ∀ i, i < k → Es[i]? = some (.int .i64 (framesB ((recs.take k).take (i + 1))).length))
    (hnew : ∀ x, (Value.slice VA vn vc).ownBlock = some x → w.heap.size + 1 + 1 + 1 + 2 ≤ x) (hbb : ∀ x, rdBlock (.slice A n c) = some x → x ≠ b) (hbb2 : ∀ x, rdBlock (.slice A n c) = some x → x < w.heap.size)
    (k6 : Only (fun x => (Value.slice RA k rc).ownBlock = some x ∨ x = b) W w6) (e6 : w6.ownsRow 0 3 1 (.slice EA k ec) k Es) (q4 : W.ownsRow 0 3 1 (.slice EA k ec) k Es)
    (v6 : ∀ i, i < k → ∃ V, Vs[i]? = some V ∧ RowB w6 V ((recs.take k).getD i []) ∧ ∀ x, V.ownBlock = some x → R1 x) (n6 : RowB w6 (.slice VA vn vc) (recs.getD k []))
    (g6 : w6.ownsRow 0 23 1 (.slice RA5 (k + 1) rc5) (k + 1) (Vs ++ [.slice VA vn vc])) (g3 : (Value.slice RA5 (k + 1) rc5).ownBlock = (Value.slice RA k rc).ownBlock ∨ ∃ x, (Value.slice RA5 (k + 1) rc5).ownBlock = some x ∧ W.heap.size ≤ x)
    (k9 : Only (fun x => (Value.slice EA k ec).ownBlock = some x ∨ x = b) w6 w9) {V0 : Value}
    (h6 : w6.heap[b]? = some (.cells (#[.pointer (some ⟨db, 0, none⟩), .int .i64 file, V0, .slice EA k ec, .bool false].setIfInBounds 2 (.slice RA5 (k + 1) rc5)) 57 (0, 0)))
    (h9 : w9.heap[b]? = some (.cells ((#[.pointer (some ⟨db, 0, none⟩), .int .i64 file, V0, .slice EA k ec, .bool false].setIfInBounds 2 (.slice RA5 (k + 1) rc5)).setIfInBounds 3 (.slice EA8 (k + 1) ec8)) 57 (0, 0)))
    (g8 : w9.ownsRow 0 3 1 (.slice EA8 (k + 1) ec8) (k + 1) (Es ++ [.int .i64 (endAt recs (k + 1))])) (g9 : (Value.slice EA8 (k + 1) ec8).ownBlock = (Value.slice EA k ec).ownBlock ∨ ∃ x, (Value.slice EA8 (k + 1) ec8).ownBlock = some x ∧ w6.heap.size ≤ x)
    (hsz : w.heap.size + 1 + 1 + 1 + 2 ≤ W.heap.size) :
    Exit.normal = Exit.normal ∧ SI w b db file recs (.slice A n c) fb (k + 1) w9 ∧ Only (fun x => ¬ (x = w.heap.size + 1 + 1 + 1 ∨ x = w.heap.size + 1 + 1 + 1 + 1)) W w9 := by
  have KW : Only R1 W w9 := (k6.mono fun x _ h => h.elim (q67.1 x) (fun e => e ▸ hFt)).trans' (k9.mono fun x _ h => h.elim (q67.2 x) (fun e => e ▸ hFt))
  have hs9 := k9.size
  have hs6 := k6.size
  have hT := take_succ_recs hk
  have hkl : (recs.take k).length = k := by rw [List.length_take]; omega
  have hVl : Vs.length = k := by have := g6.1; simp at this; omega
  have hEl : Es.length = k := by have := q4.1; omega
  have lift9 : ∀ {V : Value} {l : List UInt8}, RowB w6 V l → RowB w9 V l := fun h => h.only k9 fun x hx h' => h'.elim (RowB.apart e6 h (fun e => tags_iu e) x hx) (fun e => by subst e; exact RowB.ne h6 h tags_uj hx)
  have g69 : w9.ownsRow 0 23 1 (.slice RA5 (k + 1) rc5) (k + 1) (Vs ++ [.slice VA vn vc]) := k9.owns g6 fun x hx h' => h'.elim (own_own e6 g6 tags_is x hx) (fun e => by subst e; exact own_ne h6 g6 tags_sj hx)
  refine ⟨rfl, ⟨⟨fun x => x = b ∨ (w.heap.size + 1 + 1 + 1 + 2 ≤ x ∧ x < w9.heap.size), ⟨⟨.slice RA5 (k + 1) rc5, .slice EA8 (k + 1) ec8, Vs ++ [.slice VA vn vc], Es ++ [.int .i64 (endAt recs (k + 1))], ?_, ?_, ?_, ?_, ?_, ?_, ?_⟩, .inl rfl, ?_⟩, ?_⟩, ?_, ?_, ?_, ?_, ?_⟩, ?_⟩
  · rw [h9]; simp
  · rw [hT, List.length_append, hkl]; exact g69
  · intro i hi
    rw [hT, List.length_append, hkl] at hi
    rw [hT]
    by_cases e : i < k
    · obtain ⟨V, e1, e2, e3⟩ := v6 i e
      refine ⟨V, by rw [List.getElem?_append_left (by omega)]; exact e1, ?_, fun x hx => ?_⟩
      · rw [List.getD_eq_getElem?_getD, List.getElem?_append_left (by omega), ← List.getD_eq_getElem?_getD]; exact lift9 e2
      · rcases hR1 x (e3 x hx) with h | h
        · exact .inl h
        · exact .inr ⟨h, by have := hLow x (e3 x hx); omega⟩
    · obtain rfl : i = k := by simp at hi; omega
      refine ⟨.slice VA vn vc, by rw [List.getElem?_append_right (by omega), hVl]; simp, ?_, fun x hx => .inr ⟨hnew x hx, ?_⟩⟩
      · rw [List.getD_eq_getElem?_getD, List.getElem?_append_right (by omega), hkl]
        simp only [Nat.sub_self, List.getElem?_cons_zero, Option.getD_some]
        exact lift9 n6
      · have := n6.lt hx; omega
  · rw [hT, List.length_append, hkl]; exact g8
  · intro i hi
    rw [hT, List.length_append, hkl] at hi
    by_cases e : i < k
    · rw [List.getElem?_append_left (by omega), q5 i e, List.take_take, List.take_take]
      rw [Nat.min_eq_left (by omega), Nat.min_eq_left (by omega)]
    · obtain rfl : i = k := by simp at hi; omega
      rw [List.getElem?_append_right (by omega), hEl, List.take_take, Nat.min_self]
      simp [endAt]
  · intro x hx
    rcases g3 with e | ⟨y, e, hy⟩
    · rcases hR1 x (q67.1 x (by rw [← e]; exact hx)) with h | h
      · exact .inl h
      · exact .inr ⟨h, by have := hLow x (q67.1 x (by rw [← e]; exact hx)); omega⟩
    · rw [hx] at e; injection e with e
      obtain ⟨cc, hc⟩ := owns_block g69 hx
      exact .inr ⟨by omega, heap_lt hc⟩
  · intro x hx
    rcases g9 with e | ⟨y, e, hy⟩
    · rcases hR1 x (q67.2 x (by rw [← e]; exact hx)) with h | h
      · exact .inl h
      · exact .inr ⟨h, by have := hLow x (q67.2 x (by rw [← e]; exact hx)); omega⟩
    · rw [hx] at e; injection e with e
      obtain ⟨cc, hc⟩ := owns_block g8 hx
      exact .inr ⟨by omega, heap_lt hc⟩
  · rintro x (rfl | hx)
    · have := hLow _ hFt; omega
    · exact hx.2
  · rintro x (rfl | hx)
    · exact .inl rfl
    · exact .inr hx.1
  · exact hsi.only.trans KW fun x hx h => (hR1 x h).elim id fun h => by omega
  · exact KW.heap hsi.box2 fun h => (hR1 _ h).elim (fun e => by omega) (fun e => by omega)
  · exact KW.heap hsi.box4 fun h => (hR1 _ h).elim (fun e => by omega) (fun e => by omega)
  · exact KW.heap hsi.boxb fun h => (hR1 _ h).elim (fun e => by omega) (fun e => by omega)
  · exact hsi.rds.only KW fun x hx h => (hR1 x h).elim (fun e => hbb x hx e) (fun e => by have := hbb2 x hx; omega)
  · exact KW.mono fun x _ h e => (hR1 x h).elim (fun h => by omega) (fun h => by omega)

theorem scan_fin {w W W3 : World} {b db : Nat} {file : Int} {recs : List (List UInt8)} {bv : Value} {fb : List UInt8} (h : SI w b db file recs bv fb recs.length W) (hbw : b < w.heap.size)
    (ho : Only (fun x => x = w.heap.size + 1 ∨ x = w.heap.size + 1 + 1 + 1) W W3) : Only (fun x => x = b) w W3 ∧ ∃ R', JIn W3 b db file recs R' ∧ ∀ x, R' x → x = b ∨ w.heap.size ≤ x := by
  obtain ⟨R, h1, h2⟩ := h.jin
  rw [List.take_length] at h1
  exact ⟨h.only.trans ho fun x hx e => by omega, R, h1.only ho fun x hx e => by have := h2 x hx; omega, fun x hx => (h2 x hx).imp id fun h => by omega⟩
theorem callsDIn_mono {F : Fence} {n : Nat} {P : Program} {f : FuncId} {args : Array Value} {u : FrameMode} {w : World} {R R' : Ending → FrameMode → World → Prop} (h : CallsDIn F n P f args u w R) (hr : ∀ e u w, R e u w → R' e u w) : CallsDIn F n P f args u w R' :=
  ⟨h.1, fun c cs hc hroom => let ⟨e, u', w', fr, r, s⟩ := h.2 c cs hc hroom; ⟨e, u', w', fr, hr _ _ _ r, s⟩⟩
theorem frames_in (w : World) (A : Option Addr) (n c m : Nat) :
    CallsIn Fence.wide m Try.prog 34 #[.slice A n c] w fun e w' => e = .returned (.func (.func 43) #[] #[.pointer (some ⟨w.heap.size, 0, none⟩)]) ∧ w' = w.alloc (.cells #[.slice A n c] 23) :=
  callsIn_wide.2 (frames_any w A n c)
theorem enter_frames1 (args : Array Value) (w : World) : (callFunc 43 args).run Try.prog w = .ok (.enter 43 args) w := by
  have h := Try.func43
  go_simp
/-- How scan's iterator ends. -/
def ScanE (recs : List (List UInt8)) (rest : List UInt8) (e : Ending) : Prop := (rest = [] ∧ e = .returned (.tuple #[])) ∨ (rest ≠ [] ∧ e = haltE (framesB recs).length)
def ScanEnd (w : World) (b db : Nat) (file : Int) (recs : List (List UInt8)) (e : Ending) (w' : World) : Prop :=
  e = .returned (.agg #[.int .i64 (framesB recs).length, .bool false]) ∧ Only (fun x => x = b) w w' ∧ ∃ R', JIn w' b db file recs R' ∧ ∀ x, R' x → x = b ∨ w.heap.size ≤ x

set_option maxRecDepth 100000 in
set_option maxHeartbeats 8000000 in
theorem scan_any {w : World} {b db : Nat} {file : Int} {R : Nat → Prop} (hj : JIn w b db file [] R) (hR : ∀ x, R x → x = b) (bv : Value) (recs : List (List UInt8)) (rest : List UInt8) (hs : Small recs) (ht : Torn rest) (hn : recs.length ≤ 1000)
    (hb : Rds w bv (bytesV (framesB recs ++ rest))) (hbb : ∀ k, rdBlock bv = some k → k ≠ b) (hbl : (framesB recs ++ rest).length ≤ 1000000000) :
    Calls Try.prog 20 #[.pointer (some ⟨b, 0, none⟩), bv] w (ScanEnd w b db file recs) := by
  obtain ⟨A, n, c, rfl⟩ := Cd.rds_form hb
  have hn0 : n = (framesB recs ++ rest).length := by obtain ⟨A, c, e, _⟩ := hb; injection e with _ e _; rw [e, bytesV_length]
  have hmf : ∀ (fn : Fn) (first cap : Array Value) (w : World), (Instr.makeFunc fn first cap).run Try.prog w = .ok (.func fn first cap) w := fun _ _ _ _ => rfl
  have HN := hide hn0
  have HJ := hide (And.intro hj hR)
  have HB := hide (And.intro hb hbb)
  have HS := hide (And.intro hs (And.intro ht (And.intro hn hbl)))
  have hbw : b < w.heap.size := hj.low b hj.foot
  have HBW := hide hbw
  clear hj hR hs ht hn hb hbb hbl hn0 hbw
  refine (callsIn_wide (n := 3)).1 ?_
  refine callsIn_of_wp_marks Try.func20 rfl trivial ?_ rfl
  simp only [Try.ntmps20, List.size_toArray, List.length_cons, List.length_nil, Nat.reduceAdd, Nat.reduceSub, Array.replicate_succ, Array.replicate_zero, List.push_toArray, List.append_toArray, List.nil_append, List.cons_append]
  gi_wp2_with fail
  refine ⟨trivial, (frames_in _ A n c _).mono ?_⟩
  rintro e w1 ⟨rfl, rfl⟩
  gi_wp2
  have hF := scanW_facts w b A n c
  have hO := scanW_only w b A n c
  obtain ⟨w0, hw0⟩ : ∃ w0, scanW w b A n c = w0 := ⟨_, rfl⟩
  have hw0' : ((w.alloc (.cells #[.pointer (some ⟨b, 0, none⟩)] 32)).alloc (.cells #[.int .i64 n, .bool false] 59)).alloc (.cells #[.slice A n c] 23) = w0 := hw0
  rw [hw0] at hF hO
  rw [hw0']
  obtain ⟨f2, f4, fb, fz⟩ := hF
  have SI0 : Hid (SI w b db file recs (.slice A n c) (framesB recs ++ rest) 0 w0) := by
    obtain ⟨hj, hR⟩ := HJ.out
    rw [HN.out] at f4
    exact ⟨⟨R, hj.only hO fun _ _ => id, fun x hx => .inl (hR x hx)⟩, hO.mono fun _ _ h => h.elim, f2, f4, fb, HB.out.1.only hO fun _ _ => id⟩
  have hbb2 : Hid (∀ x, rdBlock (.slice A n c) = some x → x < w.heap.size) := fun x hx => Cd.rds_lt HB.out.1 hx
  have FZ := hide fz
  clear hw0 hw0' f2 f4 fb fz hO
  refine rangeFunc_pan (gf := 43) (lb := #[.pointer (some ⟨w.heap.size + 1 + 1, 0, none⟩)]) rfl enter_frames1 (fun k v => #[.int .i64 (endAt recs (k + 1)), v]) (fun _ _ => rfl) (fun k => recs.getD k []) recs.length
    (fun k W => SI w b db file recs (.slice A n c) (framesB recs ++ rest) k W) (ScanE recs rest) ?iter ?hI SI0.out
    (fun k v => { tmps := #[.pointer (some ⟨b, 0, none⟩), .slice A n c, .pointer (some ⟨w.heap.size, 0, none⟩), undef, .pointer (some ⟨w.heap.size + 1, 0, none⟩), .int .i64 (endAt recs (k + 1)), v, .slice A n c, .int .i64 n, .pointer (some ⟨w.heap.size + 1, 0, none⟩), .func (.func 33) #[] #[.pointer (some ⟨w.heap.size + 1, 0, none⟩)], .slice A n c, .func (.func 43) #[] #[.pointer (some ⟨w.heap.size + 1 + 1, 0, none⟩)], .int .i64 (endAt recs (k + 1)), v, undef, undef, undef, undef, undef, undef, undef, undef, undef, undef, undef, undef, undef, undef, undef, undef, undef, undef, undef, undef, undef], defers := [] }) ?assign ?body ?hend
  case iter =>
    intro l J W hJI hJg hY h0
    refine iter_any l (w.heap.size + 1 + 1) (.slice A n c) recs rest J HS.out.1 HS.out.2.1 HS.out.2.2.2 (fun k W h => ⟨by have := cell_of_heap (hJI k W h).boxb 0; simpa using this, (hJI k W h).rds⟩) hJg hY W h0
  case hI =>
    intro k W W' h ho
    rw [FZ.out] at ho
    exact h.only' HBW.out hbb2.out ho
  case assign =>
    intro l k v W K hK
    gi_wp2
    exact hK
  case body =>
    intro k W v hk hsi hv hnew hsz
    rw [FZ.out] at hnew hsz ⊢
    obtain ⟨R1, hJ, hR1⟩ := hsi.jin
    obtain ⟨RS, ES, Vs, Es, q1, q2, q3, q4, q5, q6, q7⟩ := hJ.at_
    have hkl : (recs.take k).length = k := by rw [List.length_take]; omega
    rw [hkl] at q2 q3 q4 q5
    obtain ⟨RA, rm, rc, rfl⟩ := own_form' q2
    obtain rfl := (Cd.own_n q2).symm
    obtain ⟨EA, em, ec, rfl⟩ := own_form' q4
    obtain rfl := (Cd.own_n q4).symm
    obtain ⟨VA, vn, vc, rfl⟩ := Cd.rds_form hv.rds
    have HLow := hide hJ.low
    have HFt := hide hJ.foot
    have Q1 := hide q1
    have Q2 := hide q2
    have Q3 := hide q3
    have Q4 := hide q4
    have Q5 := hide q5
    have Q67 := hide (And.intro q6 q7)
    have HR1 := hide hR1
    have HSI := hide hsi
    have HV := hide hv
    have HNew := hide hnew
    have HSz := hide hsz
    have HKL := hide hkl
    have HK := hide hk
    have P1 := hide ((Only.refl (fun _ => False) W).drew)
    have P2 := hide (P1.out.alloc (.cells #[.slice VA vn vc] 23))
    have c2 := cell_of_heap q1 2
    have cb := cell_of_heap hsi.box2 0
    simp at c2 cb
    have c2a : ∀ o, (W.alloc o).cell? ⟨b, 2, none⟩ = some (.slice RA k rc) := fun o => ((Only.refl (fun _ => False) W).alloc o).cell c2 id
    have cba : ∀ o, (W.alloc o).cell? ⟨w.heap.size, 0, none⟩ = some (.pointer (some ⟨b, 0, none⟩)) := fun o => ((Only.refl (fun _ => False) W).alloc o).cell cb id
    clear q1 q2 q3 q4 q5 q6 q7 hJ hR1 hsi hv hnew hsz hkl hk
    gi_wp2
    refine region_round (by simp) (by kernel_rfl) ?_
    refine (fun (keyA : Hid (?TailA : Prop)) => ?mainA) ?hTailA
    case mainA =>
      refine wpAnyIn_take (i := 5) (v := ?vA50) rfl rfl (by kernel_rfl) (by kernel_rfl) (by kernel_rfl) (fun _ _ _ h => h) ⟨Or.inl ⟨by rfl, ?yA50⟩, fun _ => rfl⟩ ?rA50
      case yA50 => (intro W; go_simp; try with_reducible rfl)
      case rA50 =>
        refine wpAnyIn_ready (rs := [0, 1, 6]) (by kernel_rfl) (by simp) ?_
        refine AllReadyIn.cons rfl (fun K hK => ?sA51_0) ?mA51_0
        case sA51_0 =>
          go_simp
          refine hK _ _ ?_
          clear hK K
          refine wpAnyIn_ready (rs := [1, 6]) (by kernel_rfl) (by simp) ?_
          refine AllReadyIn.cons rfl (fun K hK => ?sA52_0) ?mA52_0
          case sA52_0 =>
            go_simp
            refine hK _ _ ?_
            clear hK K
            refine wpAnyIn_take (i := 2) (v := ?vA53) rfl rfl (by kernel_rfl) (by kernel_rfl) (by kernel_rfl) (fun _ _ _ h => h) ⟨Or.inl ⟨by rfl, ?yA53⟩, fun _ => rfl⟩ ?rA53
            case yA53 => (intro W; go_simp; try with_reducible rfl)
            case rA53 =>
              refine wpAnyIn_take (i := 3) (v := ?vA54) rfl rfl (by kernel_rfl) (by kernel_rfl) (by kernel_rfl) (fun _ _ _ h => h) ⟨Or.inl ⟨by rfl, ?yA54⟩, fun _ => rfl⟩ ?rA54
              case yA54 => (intro W; go_simp; try with_reducible rfl)
              case rA54 =>
                refine wpAnyIn_ready (rs := [4, 6]) (by kernel_rfl) (by simp) ?_
                refine AllReadyIn.cons rfl (fun K hK => ?sA55_0) ?mA55_0
                case sA55_0 =>
                  go_simp
                  refine hK _ _ ?_
                  clear hK K
                  refine wpAnyIn_ready (rs := [6]) (by kernel_rfl) (by simp) ?_
                  refine AllReadyIn.cons rfl (fun K hK => ?sA56_0) AllReadyIn.nil
                  case sA56_0 =>
                    go_simp
                    refine hK _ _ ?_
                    clear hK K
                    refine wpAnyIn_ready (rs := [7]) (by kernel_rfl) (by simp) ?_
                    refine AllReadyIn.cons rfl (fun K hK => ?sA57_0) AllReadyIn.nil
                    case sA57_0 =>
                      (refine stepIn_rec rfl _ _ rfl (.slice RA k rc) k Vs rfl (P2.out.owns Q2.out fun _ _ => id) _ rfl (.slice VA vn vc) (src_rec W.drew _ (by first | rfl | simp) _ _ _) (by have := HS.out.2.2.1; have := HK.out; omega) ?_; intro v5 w5 g1 g2 g3; obtain ⟨RA5, rm5, rc5, rfl⟩ := own_form' g1; obtain rfl := (Cd.own_n g1).symm; have K5 : Hid (Only (fun x => (Value.slice RA k rc).ownBlock = some x) W w5) := (P2.out.mono fun _ _ h => h.elim).grown g2 fun x hx => .inl hx; have B5 := hide (K5.out.heap Q1.out (own_ne Q1.out Q2.out tags_sj)); have kb5 := cell_of_heap (K5.out.heap HSI.out.box2 (own_ne HSI.out.box2 Q2.out tags_sp)) 0; simp at kb5; have G1 := hide g1; have G3 : Hid ((Value.slice RA5 (k + 1) rc5).ownBlock = (Value.slice RA k rc).ownBlock ∨ ∃ x, (Value.slice RA5 (k + 1) rc5).ownBlock = some x ∧ W.heap.size ≤ x) := g3.imp id (fun ⟨x, e, h⟩ => ⟨x, e, Nat.le_trans P2.out.size h⟩); clear g1 g2 g3)
                      refine hK _ _ ?_
                      clear hK K
                      (clear kb5; revert K5 B5 G1 G3; revert w5 RA5 rc5)
                      exact keyA.out
                case mA55_0 =>
                  refine AllReadyIn.cons rfl (fun K hK => ?sA55_1) AllReadyIn.nil
                  case sA55_1 =>
                    go_simp
                    refine hK _ _ ?_
                    clear hK K
                    refine wpAnyIn_ready (rs := [4]) (by kernel_rfl) (by simp) ?_
                    refine AllReadyIn.cons rfl (fun K hK => ?sA58_0) AllReadyIn.nil
                    case sA58_0 =>
                      go_simp
                      refine hK _ _ ?_
                      clear hK K
                      refine wpAnyIn_ready (rs := [7]) (by kernel_rfl) (by simp) ?_
                      refine AllReadyIn.cons rfl (fun K hK => ?sA59_0) AllReadyIn.nil
                      case sA59_0 =>
                        (refine stepIn_rec rfl _ _ rfl (.slice RA k rc) k Vs rfl (P2.out.owns Q2.out fun _ _ => id) _ rfl (.slice VA vn vc) (src_rec W.drew _ (by first | rfl | simp) _ _ _) (by have := HS.out.2.2.1; have := HK.out; omega) ?_; intro v5 w5 g1 g2 g3; obtain ⟨RA5, rm5, rc5, rfl⟩ := own_form' g1; obtain rfl := (Cd.own_n g1).symm; have K5 : Hid (Only (fun x => (Value.slice RA k rc).ownBlock = some x) W w5) := (P2.out.mono fun _ _ h => h.elim).grown g2 fun x hx => .inl hx; have B5 := hide (K5.out.heap Q1.out (own_ne Q1.out Q2.out tags_sj)); have kb5 := cell_of_heap (K5.out.heap HSI.out.box2 (own_ne HSI.out.box2 Q2.out tags_sp)) 0; simp at kb5; have G1 := hide g1; have G3 : Hid ((Value.slice RA5 (k + 1) rc5).ownBlock = (Value.slice RA k rc).ownBlock ∨ ∃ x, (Value.slice RA5 (k + 1) rc5).ownBlock = some x ∧ W.heap.size ≤ x) := g3.imp id (fun ⟨x, e, h⟩ => ⟨x, e, Nat.le_trans P2.out.size h⟩); clear g1 g2 g3)
                        refine hK _ _ ?_
                        clear hK K
                        (clear kb5; revert K5 B5 G1 G3; revert w5 RA5 rc5)
                        exact keyA.out
          case mA52_0 =>
            refine AllReadyIn.cons rfl (fun K hK => ?sA52_1) AllReadyIn.nil
            case sA52_1 =>
              go_simp
              refine hK _ _ ?_
              clear hK K
              refine wpAnyIn_ready (rs := [1]) (by kernel_rfl) (by simp) ?_
              refine AllReadyIn.cons rfl (fun K hK => ?sA60_0) AllReadyIn.nil
              case sA60_0 =>
                go_simp
                refine hK _ _ ?_
                clear hK K
                refine wpAnyIn_take (i := 2) (v := ?vA61) rfl rfl (by kernel_rfl) (by kernel_rfl) (by kernel_rfl) (fun _ _ _ h => h) ⟨Or.inl ⟨by rfl, ?yA61⟩, fun _ => rfl⟩ ?rA61
                case yA61 => (intro W; go_simp; try with_reducible rfl)
                case rA61 =>
                  refine wpAnyIn_take (i := 3) (v := ?vA62) rfl rfl (by kernel_rfl) (by kernel_rfl) (by kernel_rfl) (fun _ _ _ h => h) ⟨Or.inl ⟨by rfl, ?yA62⟩, fun _ => rfl⟩ ?rA62
                  case yA62 => (intro W; go_simp; try with_reducible rfl)
                  case rA62 =>
                    refine wpAnyIn_ready (rs := [4]) (by kernel_rfl) (by simp) ?_
                    refine AllReadyIn.cons rfl (fun K hK => ?sA63_0) AllReadyIn.nil
                    case sA63_0 =>
                      go_simp
                      refine hK _ _ ?_
                      clear hK K
                      refine wpAnyIn_ready (rs := [7]) (by kernel_rfl) (by simp) ?_
                      refine AllReadyIn.cons rfl (fun K hK => ?sA64_0) AllReadyIn.nil
                      case sA64_0 =>
                        (refine stepIn_rec rfl _ _ rfl (.slice RA k rc) k Vs rfl (P2.out.owns Q2.out fun _ _ => id) _ rfl (.slice VA vn vc) (src_rec W.drew _ (by first | rfl | simp) _ _ _) (by have := HS.out.2.2.1; have := HK.out; omega) ?_; intro v5 w5 g1 g2 g3; obtain ⟨RA5, rm5, rc5, rfl⟩ := own_form' g1; obtain rfl := (Cd.own_n g1).symm; have K5 : Hid (Only (fun x => (Value.slice RA k rc).ownBlock = some x) W w5) := (P2.out.mono fun _ _ h => h.elim).grown g2 fun x hx => .inl hx; have B5 := hide (K5.out.heap Q1.out (own_ne Q1.out Q2.out tags_sj)); have kb5 := cell_of_heap (K5.out.heap HSI.out.box2 (own_ne HSI.out.box2 Q2.out tags_sp)) 0; simp at kb5; have G1 := hide g1; have G3 : Hid ((Value.slice RA5 (k + 1) rc5).ownBlock = (Value.slice RA k rc).ownBlock ∨ ∃ x, (Value.slice RA5 (k + 1) rc5).ownBlock = some x ∧ W.heap.size ≤ x) := g3.imp id (fun ⟨x, e, h⟩ => ⟨x, e, Nat.le_trans P2.out.size h⟩); clear g1 g2 g3)
                        refine hK _ _ ?_
                        clear hK K
                        (clear kb5; revert K5 B5 G1 G3; revert w5 RA5 rc5)
                        exact keyA.out
        case mA51_0 =>
          refine AllReadyIn.cons rfl (fun K hK => ?sA51_1) ?mA51_1
          case sA51_1 =>
            go_simp
            refine hK _ _ ?_
            clear hK K
            refine wpAnyIn_take (i := 2) (v := ?vA65) rfl rfl (by kernel_rfl) (by kernel_rfl) (by kernel_rfl) (fun _ _ _ h => h) ⟨Or.inl ⟨by rfl, ?yA65⟩, fun _ => rfl⟩ ?rA65
            case yA65 => (intro W; go_simp; try with_reducible rfl)
            case rA65 =>
              refine wpAnyIn_take (i := 3) (v := ?vA66) rfl rfl (by kernel_rfl) (by kernel_rfl) (by kernel_rfl) (fun _ _ _ h => h) ⟨Or.inl ⟨by rfl, ?yA66⟩, fun _ => rfl⟩ ?rA66
              case yA66 => (intro W; go_simp; try with_reducible rfl)
              case rA66 =>
                refine wpAnyIn_ready (rs := [0, 4, 6]) (by kernel_rfl) (by simp) ?_
                refine AllReadyIn.cons rfl (fun K hK => ?sA67_0) ?mA67_0
                case sA67_0 =>
                  go_simp
                  refine hK _ _ ?_
                  clear hK K
                  refine wpAnyIn_ready (rs := [4, 6]) (by kernel_rfl) (by simp) ?_
                  refine AllReadyIn.cons rfl (fun K hK => ?sA68_0) ?mA68_0
                  case sA68_0 =>
                    go_simp
                    refine hK _ _ ?_
                    clear hK K
                    refine wpAnyIn_ready (rs := [6]) (by kernel_rfl) (by simp) ?_
                    refine AllReadyIn.cons rfl (fun K hK => ?sA69_0) AllReadyIn.nil
                    case sA69_0 =>
                      go_simp
                      refine hK _ _ ?_
                      clear hK K
                      refine wpAnyIn_ready (rs := [7]) (by kernel_rfl) (by simp) ?_
                      refine AllReadyIn.cons rfl (fun K hK => ?sA70_0) AllReadyIn.nil
                      case sA70_0 =>
                        (refine stepIn_rec rfl _ _ rfl (.slice RA k rc) k Vs rfl (P2.out.owns Q2.out fun _ _ => id) _ rfl (.slice VA vn vc) (src_rec W.drew _ (by first | rfl | simp) _ _ _) (by have := HS.out.2.2.1; have := HK.out; omega) ?_; intro v5 w5 g1 g2 g3; obtain ⟨RA5, rm5, rc5, rfl⟩ := own_form' g1; obtain rfl := (Cd.own_n g1).symm; have K5 : Hid (Only (fun x => (Value.slice RA k rc).ownBlock = some x) W w5) := (P2.out.mono fun _ _ h => h.elim).grown g2 fun x hx => .inl hx; have B5 := hide (K5.out.heap Q1.out (own_ne Q1.out Q2.out tags_sj)); have kb5 := cell_of_heap (K5.out.heap HSI.out.box2 (own_ne HSI.out.box2 Q2.out tags_sp)) 0; simp at kb5; have G1 := hide g1; have G3 : Hid ((Value.slice RA5 (k + 1) rc5).ownBlock = (Value.slice RA k rc).ownBlock ∨ ∃ x, (Value.slice RA5 (k + 1) rc5).ownBlock = some x ∧ W.heap.size ≤ x) := g3.imp id (fun ⟨x, e, h⟩ => ⟨x, e, Nat.le_trans P2.out.size h⟩); clear g1 g2 g3)
                        refine hK _ _ ?_
                        clear hK K
                        (clear kb5; revert K5 B5 G1 G3; revert w5 RA5 rc5)
                        exact keyA.out
                  case mA68_0 =>
                    refine AllReadyIn.cons rfl (fun K hK => ?sA68_1) AllReadyIn.nil
                    case sA68_1 =>
                      go_simp
                      refine hK _ _ ?_
                      clear hK K
                      refine wpAnyIn_ready (rs := [4]) (by kernel_rfl) (by simp) ?_
                      refine AllReadyIn.cons rfl (fun K hK => ?sA71_0) AllReadyIn.nil
                      case sA71_0 =>
                        go_simp
                        refine hK _ _ ?_
                        clear hK K
                        refine wpAnyIn_ready (rs := [7]) (by kernel_rfl) (by simp) ?_
                        refine AllReadyIn.cons rfl (fun K hK => ?sA72_0) AllReadyIn.nil
                        case sA72_0 =>
                          (refine stepIn_rec rfl _ _ rfl (.slice RA k rc) k Vs rfl (P2.out.owns Q2.out fun _ _ => id) _ rfl (.slice VA vn vc) (src_rec W.drew _ (by first | rfl | simp) _ _ _) (by have := HS.out.2.2.1; have := HK.out; omega) ?_; intro v5 w5 g1 g2 g3; obtain ⟨RA5, rm5, rc5, rfl⟩ := own_form' g1; obtain rfl := (Cd.own_n g1).symm; have K5 : Hid (Only (fun x => (Value.slice RA k rc).ownBlock = some x) W w5) := (P2.out.mono fun _ _ h => h.elim).grown g2 fun x hx => .inl hx; have B5 := hide (K5.out.heap Q1.out (own_ne Q1.out Q2.out tags_sj)); have kb5 := cell_of_heap (K5.out.heap HSI.out.box2 (own_ne HSI.out.box2 Q2.out tags_sp)) 0; simp at kb5; have G1 := hide g1; have G3 : Hid ((Value.slice RA5 (k + 1) rc5).ownBlock = (Value.slice RA k rc).ownBlock ∨ ∃ x, (Value.slice RA5 (k + 1) rc5).ownBlock = some x ∧ W.heap.size ≤ x) := g3.imp id (fun ⟨x, e, h⟩ => ⟨x, e, Nat.le_trans P2.out.size h⟩); clear g1 g2 g3)
                          refine hK _ _ ?_
                          clear hK K
                          (clear kb5; revert K5 B5 G1 G3; revert w5 RA5 rc5)
                          exact keyA.out
                case mA67_0 =>
                  refine AllReadyIn.cons rfl (fun K hK => ?sA67_1) ?mA67_1
                  case sA67_1 =>
                    go_simp
                    refine hK _ _ ?_
                    clear hK K
                    refine wpAnyIn_ready (rs := [0, 6]) (by kernel_rfl) (by simp) ?_
                    refine AllReadyIn.cons rfl (fun K hK => ?sA73_0) ?mA73_0
                    case sA73_0 =>
                      go_simp
                      refine hK _ _ ?_
                      clear hK K
                      refine wpAnyIn_ready (rs := [6]) (by kernel_rfl) (by simp) ?_
                      refine AllReadyIn.cons rfl (fun K hK => ?sA74_0) AllReadyIn.nil
                      case sA74_0 =>
                        go_simp
                        refine hK _ _ ?_
                        clear hK K
                        refine wpAnyIn_ready (rs := [7]) (by kernel_rfl) (by simp) ?_
                        refine AllReadyIn.cons rfl (fun K hK => ?sA75_0) AllReadyIn.nil
                        case sA75_0 =>
                          (refine stepIn_rec rfl _ _ rfl (.slice RA k rc) k Vs rfl (P2.out.owns Q2.out fun _ _ => id) _ rfl (.slice VA vn vc) (src_rec W.drew _ (by first | rfl | simp) _ _ _) (by have := HS.out.2.2.1; have := HK.out; omega) ?_; intro v5 w5 g1 g2 g3; obtain ⟨RA5, rm5, rc5, rfl⟩ := own_form' g1; obtain rfl := (Cd.own_n g1).symm; have K5 : Hid (Only (fun x => (Value.slice RA k rc).ownBlock = some x) W w5) := (P2.out.mono fun _ _ h => h.elim).grown g2 fun x hx => .inl hx; have B5 := hide (K5.out.heap Q1.out (own_ne Q1.out Q2.out tags_sj)); have kb5 := cell_of_heap (K5.out.heap HSI.out.box2 (own_ne HSI.out.box2 Q2.out tags_sp)) 0; simp at kb5; have G1 := hide g1; have G3 : Hid ((Value.slice RA5 (k + 1) rc5).ownBlock = (Value.slice RA k rc).ownBlock ∨ ∃ x, (Value.slice RA5 (k + 1) rc5).ownBlock = some x ∧ W.heap.size ≤ x) := g3.imp id (fun ⟨x, e, h⟩ => ⟨x, e, Nat.le_trans P2.out.size h⟩); clear g1 g2 g3)
                          refine hK _ _ ?_
                          clear hK K
                          (clear kb5; revert K5 B5 G1 G3; revert w5 RA5 rc5)
                          exact keyA.out
                    case mA73_0 =>
                      refine AllReadyIn.cons rfl (fun K hK => ?sA73_1) AllReadyIn.nil
                      case sA73_1 =>
                        go_simp
                        refine hK _ _ ?_
                        clear hK K
                        refine wpAnyIn_ready (rs := [0, 7]) (by kernel_rfl) (by simp) ?_
                        refine AllReadyIn.cons rfl (fun K hK => ?sA76_0) ?mA76_0
                        case sA76_0 =>
                          go_simp
                          refine hK _ _ ?_
                          clear hK K
                          refine wpAnyIn_ready (rs := [7]) (by kernel_rfl) (by simp) ?_
                          refine AllReadyIn.cons rfl (fun K hK => ?sA77_0) AllReadyIn.nil
                          case sA77_0 =>
                            (refine stepIn_rec rfl _ _ rfl (.slice RA k rc) k Vs rfl (P2.out.owns Q2.out fun _ _ => id) _ rfl (.slice VA vn vc) (src_rec W.drew _ (by first | rfl | simp) _ _ _) (by have := HS.out.2.2.1; have := HK.out; omega) ?_; intro v5 w5 g1 g2 g3; obtain ⟨RA5, rm5, rc5, rfl⟩ := own_form' g1; obtain rfl := (Cd.own_n g1).symm; have K5 : Hid (Only (fun x => (Value.slice RA k rc).ownBlock = some x) W w5) := (P2.out.mono fun _ _ h => h.elim).grown g2 fun x hx => .inl hx; have B5 := hide (K5.out.heap Q1.out (own_ne Q1.out Q2.out tags_sj)); have kb5 := cell_of_heap (K5.out.heap HSI.out.box2 (own_ne HSI.out.box2 Q2.out tags_sp)) 0; simp at kb5; have G1 := hide g1; have G3 : Hid ((Value.slice RA5 (k + 1) rc5).ownBlock = (Value.slice RA k rc).ownBlock ∨ ∃ x, (Value.slice RA5 (k + 1) rc5).ownBlock = some x ∧ W.heap.size ≤ x) := g3.imp id (fun ⟨x, e, h⟩ => ⟨x, e, Nat.le_trans P2.out.size h⟩); clear g1 g2 g3)
                            refine hK _ _ ?_
                            clear hK K
                            (clear kb5; revert K5 B5 G1 G3; revert w5 RA5 rc5)
                            exact keyA.out
                        case mA76_0 =>
                          refine AllReadyIn.cons rfl (fun K hK => ?sA76_1) AllReadyIn.nil
                          case sA76_1 =>
                            (refine stepIn_rec rfl _ _ rfl (.slice RA k rc) k Vs rfl (P2.out.owns Q2.out fun _ _ => id) _ rfl (.slice VA vn vc) (src_rec W.drew _ (by first | rfl | simp) _ _ _) (by have := HS.out.2.2.1; have := HK.out; omega) ?_; intro v5 w5 g1 g2 g3; obtain ⟨RA5, rm5, rc5, rfl⟩ := own_form' g1; obtain rfl := (Cd.own_n g1).symm; have K5 : Hid (Only (fun x => (Value.slice RA k rc).ownBlock = some x) W w5) := (P2.out.mono fun _ _ h => h.elim).grown g2 fun x hx => .inl hx; have B5 := hide (K5.out.heap Q1.out (own_ne Q1.out Q2.out tags_sj)); have kb5 := cell_of_heap (K5.out.heap HSI.out.box2 (own_ne HSI.out.box2 Q2.out tags_sp)) 0; simp at kb5; have G1 := hide g1; have G3 : Hid ((Value.slice RA5 (k + 1) rc5).ownBlock = (Value.slice RA k rc).ownBlock ∨ ∃ x, (Value.slice RA5 (k + 1) rc5).ownBlock = some x ∧ W.heap.size ≤ x) := g3.imp id (fun ⟨x, e, h⟩ => ⟨x, e, Nat.le_trans P2.out.size h⟩); clear g1 g2 g3)
                            refine hK _ _ ?_
                            clear hK K
                            refine wpAnyIn_ready (rs := [0]) (by kernel_rfl) (by simp) ?_
                            refine AllReadyIn.cons rfl (fun K hK => ?sA78_0) AllReadyIn.nil
                            case sA78_0 =>
                              go_simp
                              refine hK _ _ ?_
                              clear hK K
                              (clear kb5; revert K5 B5 G1 G3; revert w5 RA5 rc5)
                              exact keyA.out
                  case mA67_1 =>
                    refine AllReadyIn.cons rfl (fun K hK => ?sA67_2) AllReadyIn.nil
                    case sA67_2 =>
                      go_simp
                      refine hK _ _ ?_
                      clear hK K
                      refine wpAnyIn_ready (rs := [0, 4]) (by kernel_rfl) (by simp) ?_
                      refine AllReadyIn.cons rfl (fun K hK => ?sA79_0) ?mA79_0
                      case sA79_0 =>
                        go_simp
                        refine hK _ _ ?_
                        clear hK K
                        refine wpAnyIn_ready (rs := [4]) (by kernel_rfl) (by simp) ?_
                        refine AllReadyIn.cons rfl (fun K hK => ?sA80_0) AllReadyIn.nil
                        case sA80_0 =>
                          go_simp
                          refine hK _ _ ?_
                          clear hK K
                          refine wpAnyIn_ready (rs := [7]) (by kernel_rfl) (by simp) ?_
                          refine AllReadyIn.cons rfl (fun K hK => ?sA81_0) AllReadyIn.nil
                          case sA81_0 =>
                            (refine stepIn_rec rfl _ _ rfl (.slice RA k rc) k Vs rfl (P2.out.owns Q2.out fun _ _ => id) _ rfl (.slice VA vn vc) (src_rec W.drew _ (by first | rfl | simp) _ _ _) (by have := HS.out.2.2.1; have := HK.out; omega) ?_; intro v5 w5 g1 g2 g3; obtain ⟨RA5, rm5, rc5, rfl⟩ := own_form' g1; obtain rfl := (Cd.own_n g1).symm; have K5 : Hid (Only (fun x => (Value.slice RA k rc).ownBlock = some x) W w5) := (P2.out.mono fun _ _ h => h.elim).grown g2 fun x hx => .inl hx; have B5 := hide (K5.out.heap Q1.out (own_ne Q1.out Q2.out tags_sj)); have kb5 := cell_of_heap (K5.out.heap HSI.out.box2 (own_ne HSI.out.box2 Q2.out tags_sp)) 0; simp at kb5; have G1 := hide g1; have G3 : Hid ((Value.slice RA5 (k + 1) rc5).ownBlock = (Value.slice RA k rc).ownBlock ∨ ∃ x, (Value.slice RA5 (k + 1) rc5).ownBlock = some x ∧ W.heap.size ≤ x) := g3.imp id (fun ⟨x, e, h⟩ => ⟨x, e, Nat.le_trans P2.out.size h⟩); clear g1 g2 g3)
                            refine hK _ _ ?_
                            clear hK K
                            (clear kb5; revert K5 B5 G1 G3; revert w5 RA5 rc5)
                            exact keyA.out
                      case mA79_0 =>
                        refine AllReadyIn.cons rfl (fun K hK => ?sA79_1) AllReadyIn.nil
                        case sA79_1 =>
                          go_simp
                          refine hK _ _ ?_
                          clear hK K
                          refine wpAnyIn_ready (rs := [0, 7]) (by kernel_rfl) (by simp) ?_
                          refine AllReadyIn.cons rfl (fun K hK => ?sA82_0) ?mA82_0
                          case sA82_0 =>
                            go_simp
                            refine hK _ _ ?_
                            clear hK K
                            refine wpAnyIn_ready (rs := [7]) (by kernel_rfl) (by simp) ?_
                            refine AllReadyIn.cons rfl (fun K hK => ?sA83_0) AllReadyIn.nil
                            case sA83_0 =>
                              (refine stepIn_rec rfl _ _ rfl (.slice RA k rc) k Vs rfl (P2.out.owns Q2.out fun _ _ => id) _ rfl (.slice VA vn vc) (src_rec W.drew _ (by first | rfl | simp) _ _ _) (by have := HS.out.2.2.1; have := HK.out; omega) ?_; intro v5 w5 g1 g2 g3; obtain ⟨RA5, rm5, rc5, rfl⟩ := own_form' g1; obtain rfl := (Cd.own_n g1).symm; have K5 : Hid (Only (fun x => (Value.slice RA k rc).ownBlock = some x) W w5) := (P2.out.mono fun _ _ h => h.elim).grown g2 fun x hx => .inl hx; have B5 := hide (K5.out.heap Q1.out (own_ne Q1.out Q2.out tags_sj)); have kb5 := cell_of_heap (K5.out.heap HSI.out.box2 (own_ne HSI.out.box2 Q2.out tags_sp)) 0; simp at kb5; have G1 := hide g1; have G3 : Hid ((Value.slice RA5 (k + 1) rc5).ownBlock = (Value.slice RA k rc).ownBlock ∨ ∃ x, (Value.slice RA5 (k + 1) rc5).ownBlock = some x ∧ W.heap.size ≤ x) := g3.imp id (fun ⟨x, e, h⟩ => ⟨x, e, Nat.le_trans P2.out.size h⟩); clear g1 g2 g3)
                              refine hK _ _ ?_
                              clear hK K
                              (clear kb5; revert K5 B5 G1 G3; revert w5 RA5 rc5)
                              exact keyA.out
                          case mA82_0 =>
                            refine AllReadyIn.cons rfl (fun K hK => ?sA82_1) AllReadyIn.nil
                            case sA82_1 =>
                              (refine stepIn_rec rfl _ _ rfl (.slice RA k rc) k Vs rfl (P2.out.owns Q2.out fun _ _ => id) _ rfl (.slice VA vn vc) (src_rec W.drew _ (by first | rfl | simp) _ _ _) (by have := HS.out.2.2.1; have := HK.out; omega) ?_; intro v5 w5 g1 g2 g3; obtain ⟨RA5, rm5, rc5, rfl⟩ := own_form' g1; obtain rfl := (Cd.own_n g1).symm; have K5 : Hid (Only (fun x => (Value.slice RA k rc).ownBlock = some x) W w5) := (P2.out.mono fun _ _ h => h.elim).grown g2 fun x hx => .inl hx; have B5 := hide (K5.out.heap Q1.out (own_ne Q1.out Q2.out tags_sj)); have kb5 := cell_of_heap (K5.out.heap HSI.out.box2 (own_ne HSI.out.box2 Q2.out tags_sp)) 0; simp at kb5; have G1 := hide g1; have G3 : Hid ((Value.slice RA5 (k + 1) rc5).ownBlock = (Value.slice RA k rc).ownBlock ∨ ∃ x, (Value.slice RA5 (k + 1) rc5).ownBlock = some x ∧ W.heap.size ≤ x) := g3.imp id (fun ⟨x, e, h⟩ => ⟨x, e, Nat.le_trans P2.out.size h⟩); clear g1 g2 g3)
                              refine hK _ _ ?_
                              clear hK K
                              refine wpAnyIn_ready (rs := [0]) (by kernel_rfl) (by simp) ?_
                              refine AllReadyIn.cons rfl (fun K hK => ?sA84_0) AllReadyIn.nil
                              case sA84_0 =>
                                go_simp
                                refine hK _ _ ?_
                                clear hK K
                                (clear kb5; revert K5 B5 G1 G3; revert w5 RA5 rc5)
                                exact keyA.out
          case mA51_1 =>
            refine AllReadyIn.cons rfl (fun K hK => ?sA51_2) AllReadyIn.nil
            case sA51_2 =>
              go_simp
              refine hK _ _ ?_
              clear hK K
              refine wpAnyIn_ready (rs := [0, 1]) (by kernel_rfl) (by simp) ?_
              refine AllReadyIn.cons rfl (fun K hK => ?sA85_0) ?mA85_0
              case sA85_0 =>
                go_simp
                refine hK _ _ ?_
                clear hK K
                refine wpAnyIn_ready (rs := [1]) (by kernel_rfl) (by simp) ?_
                refine AllReadyIn.cons rfl (fun K hK => ?sA86_0) AllReadyIn.nil
                case sA86_0 =>
                  go_simp
                  refine hK _ _ ?_
                  clear hK K
                  refine wpAnyIn_take (i := 2) (v := ?vA87) rfl rfl (by kernel_rfl) (by kernel_rfl) (by kernel_rfl) (fun _ _ _ h => h) ⟨Or.inl ⟨by rfl, ?yA87⟩, fun _ => rfl⟩ ?rA87
                  case yA87 => (intro W; go_simp; try with_reducible rfl)
                  case rA87 =>
                    refine wpAnyIn_take (i := 3) (v := ?vA88) rfl rfl (by kernel_rfl) (by kernel_rfl) (by kernel_rfl) (fun _ _ _ h => h) ⟨Or.inl ⟨by rfl, ?yA88⟩, fun _ => rfl⟩ ?rA88
                    case yA88 => (intro W; go_simp; try with_reducible rfl)
                    case rA88 =>
                      refine wpAnyIn_ready (rs := [4]) (by kernel_rfl) (by simp) ?_
                      refine AllReadyIn.cons rfl (fun K hK => ?sA89_0) AllReadyIn.nil
                      case sA89_0 =>
                        go_simp
                        refine hK _ _ ?_
                        clear hK K
                        refine wpAnyIn_ready (rs := [7]) (by kernel_rfl) (by simp) ?_
                        refine AllReadyIn.cons rfl (fun K hK => ?sA90_0) AllReadyIn.nil
                        case sA90_0 =>
                          (refine stepIn_rec rfl _ _ rfl (.slice RA k rc) k Vs rfl (P2.out.owns Q2.out fun _ _ => id) _ rfl (.slice VA vn vc) (src_rec W.drew _ (by first | rfl | simp) _ _ _) (by have := HS.out.2.2.1; have := HK.out; omega) ?_; intro v5 w5 g1 g2 g3; obtain ⟨RA5, rm5, rc5, rfl⟩ := own_form' g1; obtain rfl := (Cd.own_n g1).symm; have K5 : Hid (Only (fun x => (Value.slice RA k rc).ownBlock = some x) W w5) := (P2.out.mono fun _ _ h => h.elim).grown g2 fun x hx => .inl hx; have B5 := hide (K5.out.heap Q1.out (own_ne Q1.out Q2.out tags_sj)); have kb5 := cell_of_heap (K5.out.heap HSI.out.box2 (own_ne HSI.out.box2 Q2.out tags_sp)) 0; simp at kb5; have G1 := hide g1; have G3 : Hid ((Value.slice RA5 (k + 1) rc5).ownBlock = (Value.slice RA k rc).ownBlock ∨ ∃ x, (Value.slice RA5 (k + 1) rc5).ownBlock = some x ∧ W.heap.size ≤ x) := g3.imp id (fun ⟨x, e, h⟩ => ⟨x, e, Nat.le_trans P2.out.size h⟩); clear g1 g2 g3)
                          refine hK _ _ ?_
                          clear hK K
                          (clear kb5; revert K5 B5 G1 G3; revert w5 RA5 rc5)
                          exact keyA.out
              case mA85_0 =>
                refine AllReadyIn.cons rfl (fun K hK => ?sA85_1) AllReadyIn.nil
                case sA85_1 =>
                  go_simp
                  refine hK _ _ ?_
                  clear hK K
                  refine wpAnyIn_take (i := 2) (v := ?vA91) rfl rfl (by kernel_rfl) (by kernel_rfl) (by kernel_rfl) (fun _ _ _ h => h) ⟨Or.inl ⟨by rfl, ?yA91⟩, fun _ => rfl⟩ ?rA91
                  case yA91 => (intro W; go_simp; try with_reducible rfl)
                  case rA91 =>
                    refine wpAnyIn_take (i := 3) (v := ?vA92) rfl rfl (by kernel_rfl) (by kernel_rfl) (by kernel_rfl) (fun _ _ _ h => h) ⟨Or.inl ⟨by rfl, ?yA92⟩, fun _ => rfl⟩ ?rA92
                    case yA92 => (intro W; go_simp; try with_reducible rfl)
                    case rA92 =>
                      refine wpAnyIn_ready (rs := [0, 4]) (by kernel_rfl) (by simp) ?_
                      refine AllReadyIn.cons rfl (fun K hK => ?sA93_0) ?mA93_0
                      case sA93_0 =>
                        go_simp
                        refine hK _ _ ?_
                        clear hK K
                        refine wpAnyIn_ready (rs := [4]) (by kernel_rfl) (by simp) ?_
                        refine AllReadyIn.cons rfl (fun K hK => ?sA94_0) AllReadyIn.nil
                        case sA94_0 =>
                          go_simp
                          refine hK _ _ ?_
                          clear hK K
                          refine wpAnyIn_ready (rs := [7]) (by kernel_rfl) (by simp) ?_
                          refine AllReadyIn.cons rfl (fun K hK => ?sA95_0) AllReadyIn.nil
                          case sA95_0 =>
                            (refine stepIn_rec rfl _ _ rfl (.slice RA k rc) k Vs rfl (P2.out.owns Q2.out fun _ _ => id) _ rfl (.slice VA vn vc) (src_rec W.drew _ (by first | rfl | simp) _ _ _) (by have := HS.out.2.2.1; have := HK.out; omega) ?_; intro v5 w5 g1 g2 g3; obtain ⟨RA5, rm5, rc5, rfl⟩ := own_form' g1; obtain rfl := (Cd.own_n g1).symm; have K5 : Hid (Only (fun x => (Value.slice RA k rc).ownBlock = some x) W w5) := (P2.out.mono fun _ _ h => h.elim).grown g2 fun x hx => .inl hx; have B5 := hide (K5.out.heap Q1.out (own_ne Q1.out Q2.out tags_sj)); have kb5 := cell_of_heap (K5.out.heap HSI.out.box2 (own_ne HSI.out.box2 Q2.out tags_sp)) 0; simp at kb5; have G1 := hide g1; have G3 : Hid ((Value.slice RA5 (k + 1) rc5).ownBlock = (Value.slice RA k rc).ownBlock ∨ ∃ x, (Value.slice RA5 (k + 1) rc5).ownBlock = some x ∧ W.heap.size ≤ x) := g3.imp id (fun ⟨x, e, h⟩ => ⟨x, e, Nat.le_trans P2.out.size h⟩); clear g1 g2 g3)
                            refine hK _ _ ?_
                            clear hK K
                            (clear kb5; revert K5 B5 G1 G3; revert w5 RA5 rc5)
                            exact keyA.out
                      case mA93_0 =>
                        refine AllReadyIn.cons rfl (fun K hK => ?sA93_1) AllReadyIn.nil
                        case sA93_1 =>
                          go_simp
                          refine hK _ _ ?_
                          clear hK K
                          refine wpAnyIn_ready (rs := [0, 7]) (by kernel_rfl) (by simp) ?_
                          refine AllReadyIn.cons rfl (fun K hK => ?sA96_0) ?mA96_0
                          case sA96_0 =>
                            go_simp
                            refine hK _ _ ?_
                            clear hK K
                            refine wpAnyIn_ready (rs := [7]) (by kernel_rfl) (by simp) ?_
                            refine AllReadyIn.cons rfl (fun K hK => ?sA97_0) AllReadyIn.nil
                            case sA97_0 =>
                              (refine stepIn_rec rfl _ _ rfl (.slice RA k rc) k Vs rfl (P2.out.owns Q2.out fun _ _ => id) _ rfl (.slice VA vn vc) (src_rec W.drew _ (by first | rfl | simp) _ _ _) (by have := HS.out.2.2.1; have := HK.out; omega) ?_; intro v5 w5 g1 g2 g3; obtain ⟨RA5, rm5, rc5, rfl⟩ := own_form' g1; obtain rfl := (Cd.own_n g1).symm; have K5 : Hid (Only (fun x => (Value.slice RA k rc).ownBlock = some x) W w5) := (P2.out.mono fun _ _ h => h.elim).grown g2 fun x hx => .inl hx; have B5 := hide (K5.out.heap Q1.out (own_ne Q1.out Q2.out tags_sj)); have kb5 := cell_of_heap (K5.out.heap HSI.out.box2 (own_ne HSI.out.box2 Q2.out tags_sp)) 0; simp at kb5; have G1 := hide g1; have G3 : Hid ((Value.slice RA5 (k + 1) rc5).ownBlock = (Value.slice RA k rc).ownBlock ∨ ∃ x, (Value.slice RA5 (k + 1) rc5).ownBlock = some x ∧ W.heap.size ≤ x) := g3.imp id (fun ⟨x, e, h⟩ => ⟨x, e, Nat.le_trans P2.out.size h⟩); clear g1 g2 g3)
                              refine hK _ _ ?_
                              clear hK K
                              (clear kb5; revert K5 B5 G1 G3; revert w5 RA5 rc5)
                              exact keyA.out
                          case mA96_0 =>
                            refine AllReadyIn.cons rfl (fun K hK => ?sA96_1) AllReadyIn.nil
                            case sA96_1 =>
                              (refine stepIn_rec rfl _ _ rfl (.slice RA k rc) k Vs rfl (P2.out.owns Q2.out fun _ _ => id) _ rfl (.slice VA vn vc) (src_rec W.drew _ (by first | rfl | simp) _ _ _) (by have := HS.out.2.2.1; have := HK.out; omega) ?_; intro v5 w5 g1 g2 g3; obtain ⟨RA5, rm5, rc5, rfl⟩ := own_form' g1; obtain rfl := (Cd.own_n g1).symm; have K5 : Hid (Only (fun x => (Value.slice RA k rc).ownBlock = some x) W w5) := (P2.out.mono fun _ _ h => h.elim).grown g2 fun x hx => .inl hx; have B5 := hide (K5.out.heap Q1.out (own_ne Q1.out Q2.out tags_sj)); have kb5 := cell_of_heap (K5.out.heap HSI.out.box2 (own_ne HSI.out.box2 Q2.out tags_sp)) 0; simp at kb5; have G1 := hide g1; have G3 : Hid ((Value.slice RA5 (k + 1) rc5).ownBlock = (Value.slice RA k rc).ownBlock ∨ ∃ x, (Value.slice RA5 (k + 1) rc5).ownBlock = some x ∧ W.heap.size ≤ x) := g3.imp id (fun ⟨x, e, h⟩ => ⟨x, e, Nat.le_trans P2.out.size h⟩); clear g1 g2 g3)
                              refine hK _ _ ?_
                              clear hK K
                              refine wpAnyIn_ready (rs := [0]) (by kernel_rfl) (by simp) ?_
                              refine AllReadyIn.cons rfl (fun K hK => ?sA98_0) AllReadyIn.nil
                              case sA98_0 =>
                                go_simp
                                refine hK _ _ ?_
                                clear hK K
                                (clear kb5; revert K5 B5 G1 G3; revert w5 RA5 rc5)
                                exact keyA.out
    case hTailA =>
      refine hide ?_
      intro w5 RA5 rc5 K5 B5 G1 G3
      have k5a := cell_of_heap B5.out 2
      have k5b := frozen_of_heap B5.out 2
      simp at k5a
      refine wpAnyIn_take (i := 8) (v := ?vAe8) rfl rfl (by kernel_rfl) (by kernel_rfl) (by kernel_rfl) (fun _ _ _ h => h) ⟨Or.inl ⟨by rfl, ?yAe8⟩, fun _ => rfl⟩ ?rAe8
      case yAe8 => (intro W; go_simp; try with_reducible rfl)
      case rAe8 =>
        refine wpAnyIn_take (i := 9) (v := ?vAe9) rfl rfl (by kernel_rfl) (by kernel_rfl) (by kernel_rfl) (fun _ _ _ h => h) ⟨Or.inl ⟨by rfl, ?yAe9⟩, fun _ => rfl⟩ ?rAe9
        case yAe9 => (intro W; go_simp; try with_reducible rfl)
        case rAe9 =>
          refine wpAnyIn_ready (rs := [10]) (by kernel_rfl) (by simp) ?_
          refine AllReadyIn.cons rfl (fun K hK => ?_) AllReadyIn.nil
          go_simp
          refine hK _ _ ?_
          clear hK K
          refine wpAnyIn_done (by kernel_rfl) ?_ _
          gi_wp2
          have H6 := hide (heap_setCell_at B5.out 2 (.slice RA5 (k + 1) rc5))
          obtain ⟨w6, hw6⟩ : ∃ w6, w5.setCell ⟨b, 2, none⟩ (.slice RA5 (k + 1) rc5) = w6 := ⟨_, rfl⟩
          have K6 : Hid (Only (fun x => (Value.slice RA k rc).ownBlock = some x ∨ x = b) W w6) := by rw [← hw6]; exact (K5.out.mono fun x _ hx => .inl hx).trans' ((only_one w5 b 2 _).mono fun x _ hx => .inr hx)
          have G6 : Hid (w6.ownsRow 0 23 1 (.slice RA5 (k + 1) rc5) (k + 1) (Vs ++ [.slice VA vn vc])) := by rw [← hw6]; exact (only_one w5 b 2 _).owns G1.out fun x hx e => by subst e; exact own_ne B5.out G1.out tags_sj hx
          rw [hw6] at H6 ⊢
          have X6 := hide (K6.out.heap HSI.out.box2 (fun h => h.elim (own_ne HSI.out.box2 Q2.out tags_sp) (fun e => by have := HBW.out; omega)))
          have E6 := hide (K6.out.owns Q4.out fun x hx h => h.elim (own_own Q2.out Q4.out (fun e => tags_is e.symm) x hx) (fun e => by subst e; exact own_ne Q1.out Q4.out tags_ij hx))
          have V6 : Hid (∀ i, i < k → ∃ V, Vs[i]? = some V ∧ RowB w6 V ((recs.take k).getD i []) ∧ ∀ x, V.ownBlock = some x → R1 x) := fun i hi => (Q3.out i hi).imp fun V hV => ⟨hV.1, hV.2.1.only K6.out (fun x hx h => h.elim (RowB.apart Q2.out hV.2.1 (fun e => tags e.symm) x hx) (fun e => by subst e; exact RowB.ne Q1.out hV.2.1 tags_uj hx)), hV.2.2⟩
          have N6 := hide (HV.out.only K6.out fun x hx h => h.elim (RowB.apart Q2.out HV.out (fun e => tags e.symm) x hx) (fun e => by subst e; exact RowB.ne Q1.out HV.out tags_uj hx))
          have P6 := hide ((Only.refl (fun _ => False) w6).drew.alloc (.cells #[.int .i64 (endAt recs (k + 1))] 3))
          have c3 := cell_of_heap H6.out 3
          have cb6 := cell_of_heap X6.out 0
          simp at c3 cb6
          have c3a : ∀ o, (w6.alloc o).cell? ⟨b, 3, none⟩ = some (.slice EA k ec) := fun o => ((Only.refl (fun _ => False) w6).alloc o).cell c3 id
          have cb6a : ∀ o, (w6.alloc o).cell? ⟨w.heap.size, 0, none⟩ = some (.pointer (some ⟨b, 0, none⟩)) := fun o => ((Only.refl (fun _ => False) w6).alloc o).cell cb6 id
          clear k5a k5b c2 cb c2a cba hw6
          refine region_round (by simp) (by kernel_rfl) ?_
          refine (fun (keyB : Hid (?TailB : Prop)) => ?mainB) ?hTailB
          case mainB =>
            refine wpAnyIn_take (i := 5) (v := ?vB1) rfl rfl (by kernel_rfl) (by kernel_rfl) (by kernel_rfl) (fun _ _ _ h => h) ⟨Or.inl ⟨by rfl, ?yB1⟩, fun _ => rfl⟩ ?rB1
            case yB1 => (intro W; go_simp; try with_reducible rfl)
            case rB1 =>
              refine wpAnyIn_ready (rs := [0, 1, 6]) (by kernel_rfl) (by simp) ?_
              refine AllReadyIn.cons rfl (fun K hK => ?sB2_0) ?mB2_0
              case sB2_0 =>
                go_simp
                refine hK _ _ ?_
                clear hK K
                refine wpAnyIn_ready (rs := [1, 6]) (by kernel_rfl) (by simp) ?_
                refine AllReadyIn.cons rfl (fun K hK => ?sB3_0) ?mB3_0
                case sB3_0 =>
                  go_simp
                  refine hK _ _ ?_
                  clear hK K
                  refine wpAnyIn_take (i := 2) (v := ?vB4) rfl rfl (by kernel_rfl) (by kernel_rfl) (by kernel_rfl) (fun _ _ _ h => h) ⟨Or.inl ⟨by rfl, ?yB4⟩, fun _ => rfl⟩ ?rB4
                  case yB4 => (intro W; go_simp; try with_reducible rfl)
                  case rB4 =>
                    refine wpAnyIn_take (i := 3) (v := ?vB5) rfl rfl (by kernel_rfl) (by kernel_rfl) (by kernel_rfl) (fun _ _ _ h => h) ⟨Or.inl ⟨by rfl, ?yB5⟩, fun _ => rfl⟩ ?rB5
                    case yB5 => (intro W; go_simp; try with_reducible rfl)
                    case rB5 =>
                      refine wpAnyIn_ready (rs := [4, 6]) (by kernel_rfl) (by simp) ?_
                      refine AllReadyIn.cons rfl (fun K hK => ?sB6_0) ?mB6_0
                      case sB6_0 =>
                        go_simp
                        refine hK _ _ ?_
                        clear hK K
                        refine wpAnyIn_ready (rs := [6]) (by kernel_rfl) (by simp) ?_
                        refine AllReadyIn.cons rfl (fun K hK => ?sB7_0) AllReadyIn.nil
                        case sB7_0 =>
                          go_simp
                          refine hK _ _ ?_
                          clear hK K
                          refine wpAnyIn_ready (rs := [7]) (by kernel_rfl) (by simp) ?_
                          refine AllReadyIn.cons rfl (fun K hK => ?sB8_0) AllReadyIn.nil
                          case sB8_0 =>
                            (refine stepIn_int rfl _ _ rfl (.slice EA k ec) k Es rfl (P6.out.owns E6.out fun _ _ => id) _ rfl (.int .i64 (endAt recs (k + 1))) (src_int w6.drew _ (by first | rfl | simp) _) (by have := HS.out.2.2.1; have := HK.out; omega) ?_; intro v8 w8 g1 g2 g3; obtain ⟨EA8, em8, ec8, rfl⟩ := own_form' g1; obtain rfl := (Cd.own_n g1).symm; have K8 : Hid (Only (fun x => (Value.slice EA k ec).ownBlock = some x) w6 w8) := (P6.out.mono fun _ _ h => h.elim).grown g2 fun x hx => .inl hx; have B8 := hide (K8.out.heap H6.out (own_ne H6.out E6.out tags_ij)); have kb8 := cell_of_heap (K8.out.heap X6.out (own_ne X6.out E6.out tags_ip)) 0; simp at kb8; have G8 := hide g1; have G9 : Hid ((Value.slice EA8 (k + 1) ec8).ownBlock = (Value.slice EA k ec).ownBlock ∨ ∃ x, (Value.slice EA8 (k + 1) ec8).ownBlock = some x ∧ w6.heap.size ≤ x) := g3.imp id (fun ⟨x, e, h⟩ => ⟨x, e, Nat.le_trans P6.out.size h⟩); clear g1 g2 g3)
                            refine hK _ _ ?_
                            clear hK K
                            (clear kb8; revert K8 B8 G8 G9; revert w8 EA8 ec8)
                            exact keyB.out
                      case mB6_0 =>
                        refine AllReadyIn.cons rfl (fun K hK => ?sB6_1) AllReadyIn.nil
                        case sB6_1 =>
                          go_simp
                          refine hK _ _ ?_
                          clear hK K
                          refine wpAnyIn_ready (rs := [4]) (by kernel_rfl) (by simp) ?_
                          refine AllReadyIn.cons rfl (fun K hK => ?sB9_0) AllReadyIn.nil
                          case sB9_0 =>
                            go_simp
                            refine hK _ _ ?_
                            clear hK K
                            refine wpAnyIn_ready (rs := [7]) (by kernel_rfl) (by simp) ?_
                            refine AllReadyIn.cons rfl (fun K hK => ?sB10_0) AllReadyIn.nil
                            case sB10_0 =>
                              (refine stepIn_int rfl _ _ rfl (.slice EA k ec) k Es rfl (P6.out.owns E6.out fun _ _ => id) _ rfl (.int .i64 (endAt recs (k + 1))) (src_int w6.drew _ (by first | rfl | simp) _) (by have := HS.out.2.2.1; have := HK.out; omega) ?_; intro v8 w8 g1 g2 g3; obtain ⟨EA8, em8, ec8, rfl⟩ := own_form' g1; obtain rfl := (Cd.own_n g1).symm; have K8 : Hid (Only (fun x => (Value.slice EA k ec).ownBlock = some x) w6 w8) := (P6.out.mono fun _ _ h => h.elim).grown g2 fun x hx => .inl hx; have B8 := hide (K8.out.heap H6.out (own_ne H6.out E6.out tags_ij)); have kb8 := cell_of_heap (K8.out.heap X6.out (own_ne X6.out E6.out tags_ip)) 0; simp at kb8; have G8 := hide g1; have G9 : Hid ((Value.slice EA8 (k + 1) ec8).ownBlock = (Value.slice EA k ec).ownBlock ∨ ∃ x, (Value.slice EA8 (k + 1) ec8).ownBlock = some x ∧ w6.heap.size ≤ x) := g3.imp id (fun ⟨x, e, h⟩ => ⟨x, e, Nat.le_trans P6.out.size h⟩); clear g1 g2 g3)
                              refine hK _ _ ?_
                              clear hK K
                              (clear kb8; revert K8 B8 G8 G9; revert w8 EA8 ec8)
                              exact keyB.out
                case mB3_0 =>
                  refine AllReadyIn.cons rfl (fun K hK => ?sB3_1) AllReadyIn.nil
                  case sB3_1 =>
                    go_simp
                    refine hK _ _ ?_
                    clear hK K
                    refine wpAnyIn_ready (rs := [1]) (by kernel_rfl) (by simp) ?_
                    refine AllReadyIn.cons rfl (fun K hK => ?sB11_0) AllReadyIn.nil
                    case sB11_0 =>
                      go_simp
                      refine hK _ _ ?_
                      clear hK K
                      refine wpAnyIn_take (i := 2) (v := ?vB12) rfl rfl (by kernel_rfl) (by kernel_rfl) (by kernel_rfl) (fun _ _ _ h => h) ⟨Or.inl ⟨by rfl, ?yB12⟩, fun _ => rfl⟩ ?rB12
                      case yB12 => (intro W; go_simp; try with_reducible rfl)
                      case rB12 =>
                        refine wpAnyIn_take (i := 3) (v := ?vB13) rfl rfl (by kernel_rfl) (by kernel_rfl) (by kernel_rfl) (fun _ _ _ h => h) ⟨Or.inl ⟨by rfl, ?yB13⟩, fun _ => rfl⟩ ?rB13
                        case yB13 => (intro W; go_simp; try with_reducible rfl)
                        case rB13 =>
                          refine wpAnyIn_ready (rs := [4]) (by kernel_rfl) (by simp) ?_
                          refine AllReadyIn.cons rfl (fun K hK => ?sB14_0) AllReadyIn.nil
                          case sB14_0 =>
                            go_simp
                            refine hK _ _ ?_
                            clear hK K
                            refine wpAnyIn_ready (rs := [7]) (by kernel_rfl) (by simp) ?_
                            refine AllReadyIn.cons rfl (fun K hK => ?sB15_0) AllReadyIn.nil
                            case sB15_0 =>
                              (refine stepIn_int rfl _ _ rfl (.slice EA k ec) k Es rfl (P6.out.owns E6.out fun _ _ => id) _ rfl (.int .i64 (endAt recs (k + 1))) (src_int w6.drew _ (by first | rfl | simp) _) (by have := HS.out.2.2.1; have := HK.out; omega) ?_; intro v8 w8 g1 g2 g3; obtain ⟨EA8, em8, ec8, rfl⟩ := own_form' g1; obtain rfl := (Cd.own_n g1).symm; have K8 : Hid (Only (fun x => (Value.slice EA k ec).ownBlock = some x) w6 w8) := (P6.out.mono fun _ _ h => h.elim).grown g2 fun x hx => .inl hx; have B8 := hide (K8.out.heap H6.out (own_ne H6.out E6.out tags_ij)); have kb8 := cell_of_heap (K8.out.heap X6.out (own_ne X6.out E6.out tags_ip)) 0; simp at kb8; have G8 := hide g1; have G9 : Hid ((Value.slice EA8 (k + 1) ec8).ownBlock = (Value.slice EA k ec).ownBlock ∨ ∃ x, (Value.slice EA8 (k + 1) ec8).ownBlock = some x ∧ w6.heap.size ≤ x) := g3.imp id (fun ⟨x, e, h⟩ => ⟨x, e, Nat.le_trans P6.out.size h⟩); clear g1 g2 g3)
                              refine hK _ _ ?_
                              clear hK K
                              (clear kb8; revert K8 B8 G8 G9; revert w8 EA8 ec8)
                              exact keyB.out
              case mB2_0 =>
                refine AllReadyIn.cons rfl (fun K hK => ?sB2_1) ?mB2_1
                case sB2_1 =>
                  go_simp
                  refine hK _ _ ?_
                  clear hK K
                  refine wpAnyIn_take (i := 2) (v := ?vB16) rfl rfl (by kernel_rfl) (by kernel_rfl) (by kernel_rfl) (fun _ _ _ h => h) ⟨Or.inl ⟨by rfl, ?yB16⟩, fun _ => rfl⟩ ?rB16
                  case yB16 => (intro W; go_simp; try with_reducible rfl)
                  case rB16 =>
                    refine wpAnyIn_take (i := 3) (v := ?vB17) rfl rfl (by kernel_rfl) (by kernel_rfl) (by kernel_rfl) (fun _ _ _ h => h) ⟨Or.inl ⟨by rfl, ?yB17⟩, fun _ => rfl⟩ ?rB17
                    case yB17 => (intro W; go_simp; try with_reducible rfl)
                    case rB17 =>
                      refine wpAnyIn_ready (rs := [0, 4, 6]) (by kernel_rfl) (by simp) ?_
                      refine AllReadyIn.cons rfl (fun K hK => ?sB18_0) ?mB18_0
                      case sB18_0 =>
                        go_simp
                        refine hK _ _ ?_
                        clear hK K
                        refine wpAnyIn_ready (rs := [4, 6]) (by kernel_rfl) (by simp) ?_
                        refine AllReadyIn.cons rfl (fun K hK => ?sB19_0) ?mB19_0
                        case sB19_0 =>
                          go_simp
                          refine hK _ _ ?_
                          clear hK K
                          refine wpAnyIn_ready (rs := [6]) (by kernel_rfl) (by simp) ?_
                          refine AllReadyIn.cons rfl (fun K hK => ?sB20_0) AllReadyIn.nil
                          case sB20_0 =>
                            go_simp
                            refine hK _ _ ?_
                            clear hK K
                            refine wpAnyIn_ready (rs := [7]) (by kernel_rfl) (by simp) ?_
                            refine AllReadyIn.cons rfl (fun K hK => ?sB21_0) AllReadyIn.nil
                            case sB21_0 =>
                              (refine stepIn_int rfl _ _ rfl (.slice EA k ec) k Es rfl (P6.out.owns E6.out fun _ _ => id) _ rfl (.int .i64 (endAt recs (k + 1))) (src_int w6.drew _ (by first | rfl | simp) _) (by have := HS.out.2.2.1; have := HK.out; omega) ?_; intro v8 w8 g1 g2 g3; obtain ⟨EA8, em8, ec8, rfl⟩ := own_form' g1; obtain rfl := (Cd.own_n g1).symm; have K8 : Hid (Only (fun x => (Value.slice EA k ec).ownBlock = some x) w6 w8) := (P6.out.mono fun _ _ h => h.elim).grown g2 fun x hx => .inl hx; have B8 := hide (K8.out.heap H6.out (own_ne H6.out E6.out tags_ij)); have kb8 := cell_of_heap (K8.out.heap X6.out (own_ne X6.out E6.out tags_ip)) 0; simp at kb8; have G8 := hide g1; have G9 : Hid ((Value.slice EA8 (k + 1) ec8).ownBlock = (Value.slice EA k ec).ownBlock ∨ ∃ x, (Value.slice EA8 (k + 1) ec8).ownBlock = some x ∧ w6.heap.size ≤ x) := g3.imp id (fun ⟨x, e, h⟩ => ⟨x, e, Nat.le_trans P6.out.size h⟩); clear g1 g2 g3)
                              refine hK _ _ ?_
                              clear hK K
                              (clear kb8; revert K8 B8 G8 G9; revert w8 EA8 ec8)
                              exact keyB.out
                        case mB19_0 =>
                          refine AllReadyIn.cons rfl (fun K hK => ?sB19_1) AllReadyIn.nil
                          case sB19_1 =>
                            go_simp
                            refine hK _ _ ?_
                            clear hK K
                            refine wpAnyIn_ready (rs := [4]) (by kernel_rfl) (by simp) ?_
                            refine AllReadyIn.cons rfl (fun K hK => ?sB22_0) AllReadyIn.nil
                            case sB22_0 =>
                              go_simp
                              refine hK _ _ ?_
                              clear hK K
                              refine wpAnyIn_ready (rs := [7]) (by kernel_rfl) (by simp) ?_
                              refine AllReadyIn.cons rfl (fun K hK => ?sB23_0) AllReadyIn.nil
                              case sB23_0 =>
                                (refine stepIn_int rfl _ _ rfl (.slice EA k ec) k Es rfl (P6.out.owns E6.out fun _ _ => id) _ rfl (.int .i64 (endAt recs (k + 1))) (src_int w6.drew _ (by first | rfl | simp) _) (by have := HS.out.2.2.1; have := HK.out; omega) ?_; intro v8 w8 g1 g2 g3; obtain ⟨EA8, em8, ec8, rfl⟩ := own_form' g1; obtain rfl := (Cd.own_n g1).symm; have K8 : Hid (Only (fun x => (Value.slice EA k ec).ownBlock = some x) w6 w8) := (P6.out.mono fun _ _ h => h.elim).grown g2 fun x hx => .inl hx; have B8 := hide (K8.out.heap H6.out (own_ne H6.out E6.out tags_ij)); have kb8 := cell_of_heap (K8.out.heap X6.out (own_ne X6.out E6.out tags_ip)) 0; simp at kb8; have G8 := hide g1; have G9 : Hid ((Value.slice EA8 (k + 1) ec8).ownBlock = (Value.slice EA k ec).ownBlock ∨ ∃ x, (Value.slice EA8 (k + 1) ec8).ownBlock = some x ∧ w6.heap.size ≤ x) := g3.imp id (fun ⟨x, e, h⟩ => ⟨x, e, Nat.le_trans P6.out.size h⟩); clear g1 g2 g3)
                                refine hK _ _ ?_
                                clear hK K
                                (clear kb8; revert K8 B8 G8 G9; revert w8 EA8 ec8)
                                exact keyB.out
                      case mB18_0 =>
                        refine AllReadyIn.cons rfl (fun K hK => ?sB18_1) ?mB18_1
                        case sB18_1 =>
                          go_simp
                          refine hK _ _ ?_
                          clear hK K
                          refine wpAnyIn_ready (rs := [0, 6]) (by kernel_rfl) (by simp) ?_
                          refine AllReadyIn.cons rfl (fun K hK => ?sB24_0) ?mB24_0
                          case sB24_0 =>
                            go_simp
                            refine hK _ _ ?_
                            clear hK K
                            refine wpAnyIn_ready (rs := [6]) (by kernel_rfl) (by simp) ?_
                            refine AllReadyIn.cons rfl (fun K hK => ?sB25_0) AllReadyIn.nil
                            case sB25_0 =>
                              go_simp
                              refine hK _ _ ?_
                              clear hK K
                              refine wpAnyIn_ready (rs := [7]) (by kernel_rfl) (by simp) ?_
                              refine AllReadyIn.cons rfl (fun K hK => ?sB26_0) AllReadyIn.nil
                              case sB26_0 =>
                                (refine stepIn_int rfl _ _ rfl (.slice EA k ec) k Es rfl (P6.out.owns E6.out fun _ _ => id) _ rfl (.int .i64 (endAt recs (k + 1))) (src_int w6.drew _ (by first | rfl | simp) _) (by have := HS.out.2.2.1; have := HK.out; omega) ?_; intro v8 w8 g1 g2 g3; obtain ⟨EA8, em8, ec8, rfl⟩ := own_form' g1; obtain rfl := (Cd.own_n g1).symm; have K8 : Hid (Only (fun x => (Value.slice EA k ec).ownBlock = some x) w6 w8) := (P6.out.mono fun _ _ h => h.elim).grown g2 fun x hx => .inl hx; have B8 := hide (K8.out.heap H6.out (own_ne H6.out E6.out tags_ij)); have kb8 := cell_of_heap (K8.out.heap X6.out (own_ne X6.out E6.out tags_ip)) 0; simp at kb8; have G8 := hide g1; have G9 : Hid ((Value.slice EA8 (k + 1) ec8).ownBlock = (Value.slice EA k ec).ownBlock ∨ ∃ x, (Value.slice EA8 (k + 1) ec8).ownBlock = some x ∧ w6.heap.size ≤ x) := g3.imp id (fun ⟨x, e, h⟩ => ⟨x, e, Nat.le_trans P6.out.size h⟩); clear g1 g2 g3)
                                refine hK _ _ ?_
                                clear hK K
                                (clear kb8; revert K8 B8 G8 G9; revert w8 EA8 ec8)
                                exact keyB.out
                          case mB24_0 =>
                            refine AllReadyIn.cons rfl (fun K hK => ?sB24_1) AllReadyIn.nil
                            case sB24_1 =>
                              go_simp
                              refine hK _ _ ?_
                              clear hK K
                              refine wpAnyIn_ready (rs := [0, 7]) (by kernel_rfl) (by simp) ?_
                              refine AllReadyIn.cons rfl (fun K hK => ?sB27_0) ?mB27_0
                              case sB27_0 =>
                                go_simp
                                refine hK _ _ ?_
                                clear hK K
                                refine wpAnyIn_ready (rs := [7]) (by kernel_rfl) (by simp) ?_
                                refine AllReadyIn.cons rfl (fun K hK => ?sB28_0) AllReadyIn.nil
                                case sB28_0 =>
                                  (refine stepIn_int rfl _ _ rfl (.slice EA k ec) k Es rfl (P6.out.owns E6.out fun _ _ => id) _ rfl (.int .i64 (endAt recs (k + 1))) (src_int w6.drew _ (by first | rfl | simp) _) (by have := HS.out.2.2.1; have := HK.out; omega) ?_; intro v8 w8 g1 g2 g3; obtain ⟨EA8, em8, ec8, rfl⟩ := own_form' g1; obtain rfl := (Cd.own_n g1).symm; have K8 : Hid (Only (fun x => (Value.slice EA k ec).ownBlock = some x) w6 w8) := (P6.out.mono fun _ _ h => h.elim).grown g2 fun x hx => .inl hx; have B8 := hide (K8.out.heap H6.out (own_ne H6.out E6.out tags_ij)); have kb8 := cell_of_heap (K8.out.heap X6.out (own_ne X6.out E6.out tags_ip)) 0; simp at kb8; have G8 := hide g1; have G9 : Hid ((Value.slice EA8 (k + 1) ec8).ownBlock = (Value.slice EA k ec).ownBlock ∨ ∃ x, (Value.slice EA8 (k + 1) ec8).ownBlock = some x ∧ w6.heap.size ≤ x) := g3.imp id (fun ⟨x, e, h⟩ => ⟨x, e, Nat.le_trans P6.out.size h⟩); clear g1 g2 g3)
                                  refine hK _ _ ?_
                                  clear hK K
                                  (clear kb8; revert K8 B8 G8 G9; revert w8 EA8 ec8)
                                  exact keyB.out
                              case mB27_0 =>
                                refine AllReadyIn.cons rfl (fun K hK => ?sB27_1) AllReadyIn.nil
                                case sB27_1 =>
                                  (refine stepIn_int rfl _ _ rfl (.slice EA k ec) k Es rfl (P6.out.owns E6.out fun _ _ => id) _ rfl (.int .i64 (endAt recs (k + 1))) (src_int w6.drew _ (by first | rfl | simp) _) (by have := HS.out.2.2.1; have := HK.out; omega) ?_; intro v8 w8 g1 g2 g3; obtain ⟨EA8, em8, ec8, rfl⟩ := own_form' g1; obtain rfl := (Cd.own_n g1).symm; have K8 : Hid (Only (fun x => (Value.slice EA k ec).ownBlock = some x) w6 w8) := (P6.out.mono fun _ _ h => h.elim).grown g2 fun x hx => .inl hx; have B8 := hide (K8.out.heap H6.out (own_ne H6.out E6.out tags_ij)); have kb8 := cell_of_heap (K8.out.heap X6.out (own_ne X6.out E6.out tags_ip)) 0; simp at kb8; have G8 := hide g1; have G9 : Hid ((Value.slice EA8 (k + 1) ec8).ownBlock = (Value.slice EA k ec).ownBlock ∨ ∃ x, (Value.slice EA8 (k + 1) ec8).ownBlock = some x ∧ w6.heap.size ≤ x) := g3.imp id (fun ⟨x, e, h⟩ => ⟨x, e, Nat.le_trans P6.out.size h⟩); clear g1 g2 g3)
                                  refine hK _ _ ?_
                                  clear hK K
                                  refine wpAnyIn_ready (rs := [0]) (by kernel_rfl) (by simp) ?_
                                  refine AllReadyIn.cons rfl (fun K hK => ?sB29_0) AllReadyIn.nil
                                  case sB29_0 =>
                                    go_simp
                                    refine hK _ _ ?_
                                    clear hK K
                                    (clear kb8; revert K8 B8 G8 G9; revert w8 EA8 ec8)
                                    exact keyB.out
                        case mB18_1 =>
                          refine AllReadyIn.cons rfl (fun K hK => ?sB18_2) AllReadyIn.nil
                          case sB18_2 =>
                            go_simp
                            refine hK _ _ ?_
                            clear hK K
                            refine wpAnyIn_ready (rs := [0, 4]) (by kernel_rfl) (by simp) ?_
                            refine AllReadyIn.cons rfl (fun K hK => ?sB30_0) ?mB30_0
                            case sB30_0 =>
                              go_simp
                              refine hK _ _ ?_
                              clear hK K
                              refine wpAnyIn_ready (rs := [4]) (by kernel_rfl) (by simp) ?_
                              refine AllReadyIn.cons rfl (fun K hK => ?sB31_0) AllReadyIn.nil
                              case sB31_0 =>
                                go_simp
                                refine hK _ _ ?_
                                clear hK K
                                refine wpAnyIn_ready (rs := [7]) (by kernel_rfl) (by simp) ?_
                                refine AllReadyIn.cons rfl (fun K hK => ?sB32_0) AllReadyIn.nil
                                case sB32_0 =>
                                  (refine stepIn_int rfl _ _ rfl (.slice EA k ec) k Es rfl (P6.out.owns E6.out fun _ _ => id) _ rfl (.int .i64 (endAt recs (k + 1))) (src_int w6.drew _ (by first | rfl | simp) _) (by have := HS.out.2.2.1; have := HK.out; omega) ?_; intro v8 w8 g1 g2 g3; obtain ⟨EA8, em8, ec8, rfl⟩ := own_form' g1; obtain rfl := (Cd.own_n g1).symm; have K8 : Hid (Only (fun x => (Value.slice EA k ec).ownBlock = some x) w6 w8) := (P6.out.mono fun _ _ h => h.elim).grown g2 fun x hx => .inl hx; have B8 := hide (K8.out.heap H6.out (own_ne H6.out E6.out tags_ij)); have kb8 := cell_of_heap (K8.out.heap X6.out (own_ne X6.out E6.out tags_ip)) 0; simp at kb8; have G8 := hide g1; have G9 : Hid ((Value.slice EA8 (k + 1) ec8).ownBlock = (Value.slice EA k ec).ownBlock ∨ ∃ x, (Value.slice EA8 (k + 1) ec8).ownBlock = some x ∧ w6.heap.size ≤ x) := g3.imp id (fun ⟨x, e, h⟩ => ⟨x, e, Nat.le_trans P6.out.size h⟩); clear g1 g2 g3)
                                  refine hK _ _ ?_
                                  clear hK K
                                  (clear kb8; revert K8 B8 G8 G9; revert w8 EA8 ec8)
                                  exact keyB.out
                            case mB30_0 =>
                              refine AllReadyIn.cons rfl (fun K hK => ?sB30_1) AllReadyIn.nil
                              case sB30_1 =>
                                go_simp
                                refine hK _ _ ?_
                                clear hK K
                                refine wpAnyIn_ready (rs := [0, 7]) (by kernel_rfl) (by simp) ?_
                                refine AllReadyIn.cons rfl (fun K hK => ?sB33_0) ?mB33_0
                                case sB33_0 =>
                                  go_simp
                                  refine hK _ _ ?_
                                  clear hK K
                                  refine wpAnyIn_ready (rs := [7]) (by kernel_rfl) (by simp) ?_
                                  refine AllReadyIn.cons rfl (fun K hK => ?sB34_0) AllReadyIn.nil
                                  case sB34_0 =>
                                    (refine stepIn_int rfl _ _ rfl (.slice EA k ec) k Es rfl (P6.out.owns E6.out fun _ _ => id) _ rfl (.int .i64 (endAt recs (k + 1))) (src_int w6.drew _ (by first | rfl | simp) _) (by have := HS.out.2.2.1; have := HK.out; omega) ?_; intro v8 w8 g1 g2 g3; obtain ⟨EA8, em8, ec8, rfl⟩ := own_form' g1; obtain rfl := (Cd.own_n g1).symm; have K8 : Hid (Only (fun x => (Value.slice EA k ec).ownBlock = some x) w6 w8) := (P6.out.mono fun _ _ h => h.elim).grown g2 fun x hx => .inl hx; have B8 := hide (K8.out.heap H6.out (own_ne H6.out E6.out tags_ij)); have kb8 := cell_of_heap (K8.out.heap X6.out (own_ne X6.out E6.out tags_ip)) 0; simp at kb8; have G8 := hide g1; have G9 : Hid ((Value.slice EA8 (k + 1) ec8).ownBlock = (Value.slice EA k ec).ownBlock ∨ ∃ x, (Value.slice EA8 (k + 1) ec8).ownBlock = some x ∧ w6.heap.size ≤ x) := g3.imp id (fun ⟨x, e, h⟩ => ⟨x, e, Nat.le_trans P6.out.size h⟩); clear g1 g2 g3)
                                    refine hK _ _ ?_
                                    clear hK K
                                    (clear kb8; revert K8 B8 G8 G9; revert w8 EA8 ec8)
                                    exact keyB.out
                                case mB33_0 =>
                                  refine AllReadyIn.cons rfl (fun K hK => ?sB33_1) AllReadyIn.nil
                                  case sB33_1 =>
                                    (refine stepIn_int rfl _ _ rfl (.slice EA k ec) k Es rfl (P6.out.owns E6.out fun _ _ => id) _ rfl (.int .i64 (endAt recs (k + 1))) (src_int w6.drew _ (by first | rfl | simp) _) (by have := HS.out.2.2.1; have := HK.out; omega) ?_; intro v8 w8 g1 g2 g3; obtain ⟨EA8, em8, ec8, rfl⟩ := own_form' g1; obtain rfl := (Cd.own_n g1).symm; have K8 : Hid (Only (fun x => (Value.slice EA k ec).ownBlock = some x) w6 w8) := (P6.out.mono fun _ _ h => h.elim).grown g2 fun x hx => .inl hx; have B8 := hide (K8.out.heap H6.out (own_ne H6.out E6.out tags_ij)); have kb8 := cell_of_heap (K8.out.heap X6.out (own_ne X6.out E6.out tags_ip)) 0; simp at kb8; have G8 := hide g1; have G9 : Hid ((Value.slice EA8 (k + 1) ec8).ownBlock = (Value.slice EA k ec).ownBlock ∨ ∃ x, (Value.slice EA8 (k + 1) ec8).ownBlock = some x ∧ w6.heap.size ≤ x) := g3.imp id (fun ⟨x, e, h⟩ => ⟨x, e, Nat.le_trans P6.out.size h⟩); clear g1 g2 g3)
                                    refine hK _ _ ?_
                                    clear hK K
                                    refine wpAnyIn_ready (rs := [0]) (by kernel_rfl) (by simp) ?_
                                    refine AllReadyIn.cons rfl (fun K hK => ?sB35_0) AllReadyIn.nil
                                    case sB35_0 =>
                                      go_simp
                                      refine hK _ _ ?_
                                      clear hK K
                                      (clear kb8; revert K8 B8 G8 G9; revert w8 EA8 ec8)
                                      exact keyB.out
                case mB2_1 =>
                  refine AllReadyIn.cons rfl (fun K hK => ?sB2_2) AllReadyIn.nil
                  case sB2_2 =>
                    go_simp
                    refine hK _ _ ?_
                    clear hK K
                    refine wpAnyIn_ready (rs := [0, 1]) (by kernel_rfl) (by simp) ?_
                    refine AllReadyIn.cons rfl (fun K hK => ?sB36_0) ?mB36_0
                    case sB36_0 =>
                      go_simp
                      refine hK _ _ ?_
                      clear hK K
                      refine wpAnyIn_ready (rs := [1]) (by kernel_rfl) (by simp) ?_
                      refine AllReadyIn.cons rfl (fun K hK => ?sB37_0) AllReadyIn.nil
                      case sB37_0 =>
                        go_simp
                        refine hK _ _ ?_
                        clear hK K
                        refine wpAnyIn_take (i := 2) (v := ?vB38) rfl rfl (by kernel_rfl) (by kernel_rfl) (by kernel_rfl) (fun _ _ _ h => h) ⟨Or.inl ⟨by rfl, ?yB38⟩, fun _ => rfl⟩ ?rB38
                        case yB38 => (intro W; go_simp; try with_reducible rfl)
                        case rB38 =>
                          refine wpAnyIn_take (i := 3) (v := ?vB39) rfl rfl (by kernel_rfl) (by kernel_rfl) (by kernel_rfl) (fun _ _ _ h => h) ⟨Or.inl ⟨by rfl, ?yB39⟩, fun _ => rfl⟩ ?rB39
                          case yB39 => (intro W; go_simp; try with_reducible rfl)
                          case rB39 =>
                            refine wpAnyIn_ready (rs := [4]) (by kernel_rfl) (by simp) ?_
                            refine AllReadyIn.cons rfl (fun K hK => ?sB40_0) AllReadyIn.nil
                            case sB40_0 =>
                              go_simp
                              refine hK _ _ ?_
                              clear hK K
                              refine wpAnyIn_ready (rs := [7]) (by kernel_rfl) (by simp) ?_
                              refine AllReadyIn.cons rfl (fun K hK => ?sB41_0) AllReadyIn.nil
                              case sB41_0 =>
                                (refine stepIn_int rfl _ _ rfl (.slice EA k ec) k Es rfl (P6.out.owns E6.out fun _ _ => id) _ rfl (.int .i64 (endAt recs (k + 1))) (src_int w6.drew _ (by first | rfl | simp) _) (by have := HS.out.2.2.1; have := HK.out; omega) ?_; intro v8 w8 g1 g2 g3; obtain ⟨EA8, em8, ec8, rfl⟩ := own_form' g1; obtain rfl := (Cd.own_n g1).symm; have K8 : Hid (Only (fun x => (Value.slice EA k ec).ownBlock = some x) w6 w8) := (P6.out.mono fun _ _ h => h.elim).grown g2 fun x hx => .inl hx; have B8 := hide (K8.out.heap H6.out (own_ne H6.out E6.out tags_ij)); have kb8 := cell_of_heap (K8.out.heap X6.out (own_ne X6.out E6.out tags_ip)) 0; simp at kb8; have G8 := hide g1; have G9 : Hid ((Value.slice EA8 (k + 1) ec8).ownBlock = (Value.slice EA k ec).ownBlock ∨ ∃ x, (Value.slice EA8 (k + 1) ec8).ownBlock = some x ∧ w6.heap.size ≤ x) := g3.imp id (fun ⟨x, e, h⟩ => ⟨x, e, Nat.le_trans P6.out.size h⟩); clear g1 g2 g3)
                                refine hK _ _ ?_
                                clear hK K
                                (clear kb8; revert K8 B8 G8 G9; revert w8 EA8 ec8)
                                exact keyB.out
                    case mB36_0 =>
                      refine AllReadyIn.cons rfl (fun K hK => ?sB36_1) AllReadyIn.nil
                      case sB36_1 =>
                        go_simp
                        refine hK _ _ ?_
                        clear hK K
                        refine wpAnyIn_take (i := 2) (v := ?vB42) rfl rfl (by kernel_rfl) (by kernel_rfl) (by kernel_rfl) (fun _ _ _ h => h) ⟨Or.inl ⟨by rfl, ?yB42⟩, fun _ => rfl⟩ ?rB42
                        case yB42 => (intro W; go_simp; try with_reducible rfl)
                        case rB42 =>
                          refine wpAnyIn_take (i := 3) (v := ?vB43) rfl rfl (by kernel_rfl) (by kernel_rfl) (by kernel_rfl) (fun _ _ _ h => h) ⟨Or.inl ⟨by rfl, ?yB43⟩, fun _ => rfl⟩ ?rB43
                          case yB43 => (intro W; go_simp; try with_reducible rfl)
                          case rB43 =>
                            refine wpAnyIn_ready (rs := [0, 4]) (by kernel_rfl) (by simp) ?_
                            refine AllReadyIn.cons rfl (fun K hK => ?sB44_0) ?mB44_0
                            case sB44_0 =>
                              go_simp
                              refine hK _ _ ?_
                              clear hK K
                              refine wpAnyIn_ready (rs := [4]) (by kernel_rfl) (by simp) ?_
                              refine AllReadyIn.cons rfl (fun K hK => ?sB45_0) AllReadyIn.nil
                              case sB45_0 =>
                                go_simp
                                refine hK _ _ ?_
                                clear hK K
                                refine wpAnyIn_ready (rs := [7]) (by kernel_rfl) (by simp) ?_
                                refine AllReadyIn.cons rfl (fun K hK => ?sB46_0) AllReadyIn.nil
                                case sB46_0 =>
                                  (refine stepIn_int rfl _ _ rfl (.slice EA k ec) k Es rfl (P6.out.owns E6.out fun _ _ => id) _ rfl (.int .i64 (endAt recs (k + 1))) (src_int w6.drew _ (by first | rfl | simp) _) (by have := HS.out.2.2.1; have := HK.out; omega) ?_; intro v8 w8 g1 g2 g3; obtain ⟨EA8, em8, ec8, rfl⟩ := own_form' g1; obtain rfl := (Cd.own_n g1).symm; have K8 : Hid (Only (fun x => (Value.slice EA k ec).ownBlock = some x) w6 w8) := (P6.out.mono fun _ _ h => h.elim).grown g2 fun x hx => .inl hx; have B8 := hide (K8.out.heap H6.out (own_ne H6.out E6.out tags_ij)); have kb8 := cell_of_heap (K8.out.heap X6.out (own_ne X6.out E6.out tags_ip)) 0; simp at kb8; have G8 := hide g1; have G9 : Hid ((Value.slice EA8 (k + 1) ec8).ownBlock = (Value.slice EA k ec).ownBlock ∨ ∃ x, (Value.slice EA8 (k + 1) ec8).ownBlock = some x ∧ w6.heap.size ≤ x) := g3.imp id (fun ⟨x, e, h⟩ => ⟨x, e, Nat.le_trans P6.out.size h⟩); clear g1 g2 g3)
                                  refine hK _ _ ?_
                                  clear hK K
                                  (clear kb8; revert K8 B8 G8 G9; revert w8 EA8 ec8)
                                  exact keyB.out
                            case mB44_0 =>
                              refine AllReadyIn.cons rfl (fun K hK => ?sB44_1) AllReadyIn.nil
                              case sB44_1 =>
                                go_simp
                                refine hK _ _ ?_
                                clear hK K
                                refine wpAnyIn_ready (rs := [0, 7]) (by kernel_rfl) (by simp) ?_
                                refine AllReadyIn.cons rfl (fun K hK => ?sB47_0) ?mB47_0
                                case sB47_0 =>
                                  go_simp
                                  refine hK _ _ ?_
                                  clear hK K
                                  refine wpAnyIn_ready (rs := [7]) (by kernel_rfl) (by simp) ?_
                                  refine AllReadyIn.cons rfl (fun K hK => ?sB48_0) AllReadyIn.nil
                                  case sB48_0 =>
                                    (refine stepIn_int rfl _ _ rfl (.slice EA k ec) k Es rfl (P6.out.owns E6.out fun _ _ => id) _ rfl (.int .i64 (endAt recs (k + 1))) (src_int w6.drew _ (by first | rfl | simp) _) (by have := HS.out.2.2.1; have := HK.out; omega) ?_; intro v8 w8 g1 g2 g3; obtain ⟨EA8, em8, ec8, rfl⟩ := own_form' g1; obtain rfl := (Cd.own_n g1).symm; have K8 : Hid (Only (fun x => (Value.slice EA k ec).ownBlock = some x) w6 w8) := (P6.out.mono fun _ _ h => h.elim).grown g2 fun x hx => .inl hx; have B8 := hide (K8.out.heap H6.out (own_ne H6.out E6.out tags_ij)); have kb8 := cell_of_heap (K8.out.heap X6.out (own_ne X6.out E6.out tags_ip)) 0; simp at kb8; have G8 := hide g1; have G9 : Hid ((Value.slice EA8 (k + 1) ec8).ownBlock = (Value.slice EA k ec).ownBlock ∨ ∃ x, (Value.slice EA8 (k + 1) ec8).ownBlock = some x ∧ w6.heap.size ≤ x) := g3.imp id (fun ⟨x, e, h⟩ => ⟨x, e, Nat.le_trans P6.out.size h⟩); clear g1 g2 g3)
                                    refine hK _ _ ?_
                                    clear hK K
                                    (clear kb8; revert K8 B8 G8 G9; revert w8 EA8 ec8)
                                    exact keyB.out
                                case mB47_0 =>
                                  refine AllReadyIn.cons rfl (fun K hK => ?sB47_1) AllReadyIn.nil
                                  case sB47_1 =>
                                    (refine stepIn_int rfl _ _ rfl (.slice EA k ec) k Es rfl (P6.out.owns E6.out fun _ _ => id) _ rfl (.int .i64 (endAt recs (k + 1))) (src_int w6.drew _ (by first | rfl | simp) _) (by have := HS.out.2.2.1; have := HK.out; omega) ?_; intro v8 w8 g1 g2 g3; obtain ⟨EA8, em8, ec8, rfl⟩ := own_form' g1; obtain rfl := (Cd.own_n g1).symm; have K8 : Hid (Only (fun x => (Value.slice EA k ec).ownBlock = some x) w6 w8) := (P6.out.mono fun _ _ h => h.elim).grown g2 fun x hx => .inl hx; have B8 := hide (K8.out.heap H6.out (own_ne H6.out E6.out tags_ij)); have kb8 := cell_of_heap (K8.out.heap X6.out (own_ne X6.out E6.out tags_ip)) 0; simp at kb8; have G8 := hide g1; have G9 : Hid ((Value.slice EA8 (k + 1) ec8).ownBlock = (Value.slice EA k ec).ownBlock ∨ ∃ x, (Value.slice EA8 (k + 1) ec8).ownBlock = some x ∧ w6.heap.size ≤ x) := g3.imp id (fun ⟨x, e, h⟩ => ⟨x, e, Nat.le_trans P6.out.size h⟩); clear g1 g2 g3)
                                    refine hK _ _ ?_
                                    clear hK K
                                    refine wpAnyIn_ready (rs := [0]) (by kernel_rfl) (by simp) ?_
                                    refine AllReadyIn.cons rfl (fun K hK => ?sB49_0) AllReadyIn.nil
                                    case sB49_0 =>
                                      go_simp
                                      refine hK _ _ ?_
                                      clear hK K
                                      (clear kb8; revert K8 B8 G8 G9; revert w8 EA8 ec8)
                                      exact keyB.out
          case hTailB =>
            refine hide ?_
            intro w8 EA8 ec8 K8 B8 G8 G9
            have k8a := cell_of_heap B8.out 3
            have k8b := frozen_of_heap B8.out 3
            simp at k8a
            refine wpAnyIn_take (i := 8) (v := ?vBe8) rfl rfl (by kernel_rfl) (by kernel_rfl) (by kernel_rfl) (fun _ _ _ h => h) ⟨Or.inl ⟨by rfl, ?yBe8⟩, fun _ => rfl⟩ ?rBe8
            case yBe8 => (intro W; go_simp; try with_reducible rfl)
            case rBe8 =>
              refine wpAnyIn_take (i := 9) (v := ?vBe9) rfl rfl (by kernel_rfl) (by kernel_rfl) (by kernel_rfl) (fun _ _ _ h => h) ⟨Or.inl ⟨by rfl, ?yBe9⟩, fun _ => rfl⟩ ?rBe9
              case yBe9 => (intro W; go_simp; try with_reducible rfl)
              case rBe9 =>
                refine wpAnyIn_ready (rs := [10]) (by kernel_rfl) (by simp) ?_
                refine AllReadyIn.cons rfl (fun K hK => ?_) AllReadyIn.nil
                go_simp
                refine hK _ _ ?_
                clear hK K
                refine wpAnyIn_done (by kernel_rfl) ?_ _
                gi_wp2
                have one := only_one w8 b 3 (.slice EA8 (k + 1) ec8)
                have K9 : Only (fun x => (Value.slice EA k ec).ownBlock = some x ∨ x = b) w6 (w8.setCell ⟨b, 3, none⟩ (.slice EA8 (k + 1) ec8)) := (K8.out.mono fun x _ hx => .inl hx).trans' (one.mono fun x _ hx => .inr hx)
                have H9 := heap_setCell_at B8.out 3 (.slice EA8 (k + 1) ec8)
                have G89 := one.owns G8.out fun x hx e => by subst e; exact own_ne B8.out G8.out tags_ij hx
                obtain ⟨w9, hw9⟩ : ∃ w9, w8.setCell ⟨b, 3, none⟩ (.slice EA8 (k + 1) ec8) = w9 := ⟨_, rfl⟩
                rw [hw9] at K9 H9 G89 ⊢
                have hfin := scan_step HBW.out HSI.out HK.out HR1.out HLow.out HFt.out Q67.out Q5.out HNew.out (fun x hx => HB.out.2 x hx) hbb2.out K6.out E6.out Q4.out V6.out N6.out G6.out G3.out K9 H6.out H9 G89 G9.out HSz.out
                exact ⟨hfin.2.1, hfin.2.2.mono fun x _ h => not_or.1 h⟩
  case hend =>
    intro e W he hi hsz hd
    rw [FZ.out] at hd
    have b4 := hi.box4
    have ne1 : w.heap.size + 1 ≠ w.heap.size + 1 + 1 + 1 := by omega
    have HI := hide hi
    rcases he with ⟨hr, rfl⟩ | ⟨hr, rfl⟩
    · subst hr
      have hl : (framesB recs ++ []).length = (framesB recs).length := by rw [List.append_nil]
      rw [hl] at b4
      have c0 := cell_of_heap b4 0
      have c1 := cell_of_heap b4 1
      have z0 := frozen_of_heap b4 0
      have z1 := frozen_of_heap b4 1
      simp at c0 c1
      have B4 := hide b4
      have HD := hide hd
      clear hi hd b4 hl
      dsimp only [PanEnd]
      gi_wp2
      have O2 := ((only_one W (w.heap.size + 1) 0 (.int .i64 (framesB recs).length)).setCell (p := ⟨w.heap.size + 1, 1, none⟩) (.inl rfl) (.bool false))
      have h2 := heap_setCell_at (heap_setCell_at B4.out 0 (.int .i64 (framesB recs).length)) 1 (.bool false)
      obtain ⟨W2, hW2⟩ : ∃ W2, (W.setCell ⟨w.heap.size + 1, 0, none⟩ (.int .i64 (framesB recs).length)).setCell ⟨w.heap.size + 1, 1, none⟩ (.bool false) = W2 := ⟨_, rfl⟩
      rw [hW2] at O2 h2 ⊢
      have O3 := only_putObj W2 w0.heap.size (.deferred none)
      refine ⟨by simp, .inl ⟨_, _, rfl, run_takeDeferred (by rw [FZ.out]; exact O2.heap HD.out (fun e => ne1 e.symm)), ?_⟩⟩
      have h3 := O3.heap h2 (by rw [FZ.out]; exact ne1)
      have d0 := cell_of_heap h3 0
      have d1 := cell_of_heap h3 1
      simp at d0 d1
      have hfin := scan_fin HI.out HBW.out ((O2.mono fun x _ h => .inl h).trans' (O3.mono fun x _ h => .inr (by rw [FZ.out] at h; exact h)))
      refine ⟨by simp, .inr ⟨(fun h => by cases h), _, _, 33, #[.pointer (some ⟨w.heap.size + 1, 0, none⟩)], rfl, by simp [go_sem], fun _ _ => trivial, ?_⟩⟩
      refine callsDIn_mono (scan_idle _ _ _) ?_
      rintro e u' w'' ⟨rfl, rfl, rfl⟩
      simp [LeavesInM, LeavesIn, settle, results, Try.results20, go_sem, d0, d1]
      exact ⟨rfl, hfin⟩
    · have h2 := hd
      have O3 := only_putObj W w0.heap.size (.deferred none)
      have h3 := O3.heap b4 (by rw [FZ.out]; exact ne1)
      dsimp only [PanEnd]
      refine ⟨by simp, .inl ⟨_, _, rfl, run_takeDeferred (by rw [FZ.out]; exact hd), ?_⟩⟩
      refine ⟨by simp, .inr ⟨(fun h => by cases h), _, _, 33, #[.pointer (some ⟨w.heap.size + 1, 0, none⟩)], rfl, by simp [go_sem], fun _ _ => trivial, ?_⟩⟩
      refine callsDIn_mono (scan_catch _ _ (framesB recs).length [] _ _ _ _ h3) ?_
      rintro e u' w'' ⟨rfl, rfl, W4, hO4, rfl⟩
      have h4 := heap_setCell_at (heap_setCell_at (hO4.heap h3 id) 0 (.int .i64 (framesB recs).length)) 1 (.bool false)
      have d0 := cell_of_heap h4 0
      have d1 := cell_of_heap h4 1
      simp at d0 d1
      have O5 : Only (fun x => x = w.heap.size + 1) W4 ((W4.setCell ⟨w.heap.size + 1, 0, none⟩ (.int .i64 (framesB recs).length)).setCell ⟨w.heap.size + 1, 1, none⟩ (.bool false)) := (only_one W4 (w.heap.size + 1) 0 (.int .i64 (framesB recs).length)).setCell (p := ⟨w.heap.size + 1, 1, none⟩) (.inl rfl) (.bool false)
      have hfin := scan_fin HI.out HBW.out ((((O3.mono fun x _ h => .inr (by rw [FZ.out] at h; exact h))).trans' (hO4.mono fun x _ h => h.elim)).trans' (O5.mono fun x _ h => .inl h))
      simp [LeavesInM, LeavesIn, settle, results, Try.results20, go_sem, d0, d1]
      exact ⟨rfl, hfin⟩

end Go.Proofs.Ytcedenhfchcgiaa.Jn

