/- A law of my own: a range over a function whose iterator may panic, in a function that recovers. -/
import Derived.Test.YtcedenhfchcgiaaJn06
set_option linter.unusedVariables false
set_option linter.unusedSimpArgs false
namespace Go.Proofs.Ytcedenhfchcgiaa.Jn
open Go.RowKit Go.Shelf

theorem only_putObj (W : World) (l : Nat) (o : Obj) : Only (fun x => x = l) W (W.putObj l o) := (Only.refl _ W).grown (grownBy_putObj' W l o) fun k e => by cases e; exact .inl rfl

/-- What is asked behind the iterator: it has returned, or it has panicked. -/
def PanEnd (Q : Exit → Act → World → Prop) (a : Act) (W : World) : Ending → Prop
  | .returned _ => Q .normal a W
  | .panicked chain => Q (.panic chain) a W
  | .outgrown => False

theorem rangeFunc_pan {P : Program} {g : Operand} {ps : Array Tmp} {assign body : Code} {Q : Exit → Act → World → Prop} {a : Act} {w : World} {n gf : Nat} {lb : Array Value}
    (hg : a.eval g = .func (.func gf) #[] lb) (eg : ∀ args w, (callFunc gf args).run P w = .ok (.enter gf args) w)
    (arg : Nat → Value → Array Value) (hps : ∀ k v, (arg k v).size = ps.size) (r : Nat → List UInt8) (N : Nat) (I : Nat → World → Prop) (E : Ending → Prop)
    (hiter : ∀ (l : Nat) (J : Nat → World → Prop) (W : World), (∀ k W, J k W → I k W) → (∀ k W W', J k W → Only (fun _ => False) W W' → J k W') →
      (∀ k W0 W v, k < N → J k W0 → FreshB W0 W v (r k) → YieldAt Fence.wide (n - 1 - 1) P l (arg k v) W fun e W' => e = .returned (.bool true) ∧ J (k + 1) W') → J 0 W →
      CallsIn Fence.wide (n - 1) P gf (#[.func (.yield l) #[] #[]] ++ lb) W fun e W' => J N W' ∧ E e)
    (hI : ∀ k W W', I k W → Only (fun x => x = w.heap.size ∨ x = w.heap.size + 1) W W' → I k W') (h0 : I 0 w) (a₁ : Nat → Value → Act)
    (hassign : ∀ (l k : Nat) (v : Value) (W : World) (K : Act → World → Prop), K (a₁ k v) W →
      assign.wpIn (Fence.wide.inRound l) (n - 1 - 1) P (Exit.then K (fun _ _ _ => False)) { tmps := (ps.zip (arg k v)).foldl (fun t (p, v) => t.setIfInBounds p v) a.tmps, defers := [] } W)
    (hbody : ∀ (k : Nat) (W : World) (v : Value), k < N → I k W → RowB W v (r k) → (∀ x, v.ownBlock = some x → w.heap.size + 2 ≤ x) → w.heap.size + 2 ≤ W.heap.size →
      body.wpIn (Fence.wide.inRound (w.heap.size + 1)) (n - 1 - 1) P (fun e _ W' => e = .normal ∧ I (k + 1) W' ∧ Only (fun x => ¬ (x = w.heap.size ∨ x = w.heap.size + 1)) W W') (a₁ k v) W)
    (hend : ∀ e W, E e → I N W → w.heap.size + 2 ≤ W.heap.size → W.heap[w.heap.size]? = some (.deferred (some [])) → PanEnd Q { a with defers := { target := .collected w.heap.size, args := #[] } :: a.defers } W e) :
    (Code.rangeFunc g ps assign body).wpIn Fence.wide n P Q a w := by
  refine wpIn_rangeFunc ?_
  intro fn hfn
  obtain ⟨rec, hrec⟩ : ∃ rec : LoopState → Option Code → Loop, rec = fun st pe => { state := st, pending := pe, fn, tmps := a.tmps, params := ps, assign, body, defers := w.heap.size } := ⟨_, rfl⟩
  obtain ⟨W1, hW1⟩ : ∃ W1, (w.alloc (.deferred (some []))).alloc (.loop (rec .ready none)) = W1 := ⟨_, rfl⟩
  have hL1 : W1.heap[w.heap.size + 1]? = some (.loop (rec .ready none)) := by
    rw [← hW1]; have := World.alloc_heap_new (w.alloc (.deferred (some []))) (.loop (rec .ready none)); rwa [World.size_alloc] at this
  have hK1 : W1.heap[w.heap.size]? = some (.deferred (some [])) := by
    rw [← hW1]; exact (Below.heap_alloc _ _ _ (by simp)).trans (World.alloc_heap_new w _)
  have hO1 : Only (fun _ => False) w W1 := by rw [← hW1]; exact ((Only.refl _ w).alloc _).alloc _
  have hI1 : I 0 W1 := hI 0 w W1 h0 (hO1.mono fun _ _ h => h.elim)
  refine ⟨w.heap.size + 1, [{ target := .collected w.heap.size, args := #[] }], W1, { target := .fn (.func gf) lb, args := #[.func (.yield (w.heap.size + 1)) #[] #[]] }, W1, gf,
    #[.func (.yield (w.heap.size + 1)) #[] #[]] ++ lb, W1, ?_, ?_, ?_, ?_, (fun h => by cases h), ?_⟩
  · rw [← hW1, hrec]; exact run_enterLoop_outer _ _ _ _ _
  · simp only [resolve, hg]
    simp [go_sem]
  · intro f' hf'; exact trivial
  · simp [invoke, go_sem, eg]
  · refine (hiter (w.heap.size + 1)
      (fun k W => I k W ∧ W.heap[w.heap.size + 1]? = some (.loop (rec .ready none)) ∧ W.heap[w.heap.size]? = some (.deferred (some [])))
      W1 (fun k W h => h.1) (fun k W W' h ho => ⟨hI k W W' h.1 (ho.mono fun _ _ h => h.elim), ho.heap h.2.1 id, ho.heap h.2.2 id⟩) ?_ ⟨hI1, hL1, hK1⟩).mono ?_
    · -- one round
      rintro k W0 W v hk ⟨hi0, hl0, hk0⟩ hF
      have hlt0 : w.heap.size + 1 < W0.heap.size := (Array.getElem?_eq_some_iff.1 hl0).1
      have hi := hI k W0 W hi0 (hF.only.mono fun _ _ h => h.elim)
      have hl : W.heap[w.heap.size + 1]? = some (.loop (rec .ready none)) := hF.only.heap hl0 id
      have hd : W.heap[w.heap.size]? = some (.deferred (some [])) := hF.only.heap hk0 id
      have hlt : w.heap.size + 1 < W.heap.size := (Array.getElem?_eq_some_iff.1 hl).1
      have hnew : ∀ x, v.ownBlock = some x → w.heap.size + 2 ≤ x := fun x hx => by have := hF.new x hx; omega
      have hy := run_yield (P := P) (args := arg k v) hl (by rw [hrec]; exact hps k v)
      rw [hrec] at hy
      refine ⟨fn, _, assign, body, hy, roundIn_of_wpIn hfn (hassign _ k v W _ ⟨_, run_beginRound hl (by rw [hrec]), ?_⟩)⟩
      have ho2 := only_putObj W (w.heap.size + 1) (.loop { rec .ready none with state := .busy })
      have hl2 : (W.putObj (w.heap.size + 1) (.loop { rec .ready none with state := .busy })).heap[w.heap.size + 1]? = some (.loop { rec .ready none with state := .busy }) := World.putObj_heap_same hlt
      have hd2 : (W.putObj (w.heap.size + 1) (.loop { rec .ready none with state := .busy })).heap[w.heap.size]? = some (.deferred (some [])) := (World.putObj_heap_other (by omega)).trans hd
      refine wpIn_mono (hbody k _ v hk (hI k W _ hi (ho2.mono fun _ _ h => .inr h)) (hF.row.only ho2 fun x hx e => by have := hnew x hx; omega) hnew (Nat.le_trans (by omega) ho2.size)) ?_
      rintro e a3 W3 ⟨rfl, hi3, ho3⟩
      have hl3 := ho3.heap hl2 (by simp)
      have hd3 := ho3.heap hd2 (by simp)
      have hrun := run_endRound (P := P) none hl3
      rw [hrec] at hrun hl3
      have ho4 := only_putObj W3 (w.heap.size + 1) (.loop (rec .ready none))
      refine ⟨_, _, hrun, rfl, ?_⟩
      rw [hrec] at ho4 ⊢
      exact ⟨hI _ _ _ hi3 (ho4.mono fun _ _ h => .inr h), World.putObj_heap_same (Array.getElem?_eq_some_iff.1 hl3).1, (World.putObj_heap_other (by omega)).trans hd3⟩
    · -- behind the iterator
      rintro e W2 ⟨⟨hi, hl, hd⟩, he⟩
      have hlt : w.heap.size + 1 < W2.heap.size := (Array.getElem?_eq_some_iff.1 hl).1
      cases e with
      | returned v =>
        have hrun := run_endLoop (P := P) hl (by rw [hrec]; simp)
        refine ⟨none, _, by rw [hrec] at hrun; exact hrun, ?_⟩
        have ho4 := only_putObj W2 (w.heap.size + 1) (.loop { rec .ready none with state := .exhausted })
        have := hend (.returned v) (W2.putObj (w.heap.size + 1) (.loop { rec .ready none with state := .exhausted })) he (hI _ _ _ hi (ho4.mono fun _ _ h => .inr h)) (Nat.le_trans (by omega) ho4.size) ((World.putObj_heap_other (by omega)).trans hd)
        rw [hrec] at this
        exact this
      | panicked chain => exact hend _ W2 he hi (by omega) hd
      | outgrown => exact (hend _ W2 he hi (by omega) hd).elim

end Go.Proofs.Ytcedenhfchcgiaa.Jn
