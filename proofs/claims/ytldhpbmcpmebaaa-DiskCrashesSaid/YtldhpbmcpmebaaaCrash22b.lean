/- DiskCrashes: the list of calls with one more. -/
import Derived.Test.YtldhpbmcpmebaaaCrash22
set_option linter.unusedVariables false
set_option linter.unusedSimpArgs false
namespace Go.Proofs.Ytldhpbmcpmebaaa
open Go.RowKit

theorem info_call : (Try.prog.info? 51).map (fun i => (i.zero, i.size, i.bytes)) = some (some (.agg #[.int .i64 0, .int .i64 0, .int .i64 0, .slice none 0 0, .slice none 0 0]), 5, 72) := by kernel_rfl

theorem wp_appC {w : World} {ops : Array Oper} {rest : List Oper} {o : Oper} {a : Act} {Q : Exit → Act → World → Prop} (hgd : o.guard = none) (s x : Operand)
    (ho : o.op = .call { callee := .builtin .append, args := #[s, x], argTypes := #[48, 48] })
    (v : Value) (n : Nat) (xs : List Value) (hsv : a.eval s = v) (hown : w.ownsRow 0 51 5 v n xs) (xv : Value) (hxv : a.eval x = xv) (m : Nat) (news : List Value) (hs : Src Try.prog 5 48 xv m news w)
    (hn : n ≤ 1000) (hm : m ≤ 1000)
    (h : ∀ v' w', w'.ownsRow 0 51 5 v' (n + m) (xs ++ news) → w.grownBy w' v.ownBlock → (v'.ownBlock = v.ownBlock ∨ ∃ k, v'.ownBlock = some k ∧ w.heap.size ≤ k) → wpList Try.prog ops Q rest (a.put o.dst v') w') : wpList Try.prog ops Q (o :: rest) a w := by
  obtain ⟨i0, hi, hz0, hz1, hz2⟩ := info_parts info_call
  exact wpList_append_5 hgd s x 48 48 ho 0 51 i0 _ Try.underlying48 hi hz0 hz1 rfl v n xs hsv hown _ hxv m news hs (by simp only [maxLen]; omega) (by rw [hz2]; omega) (Nat.zero_le _) h

theorem calls_cell {w : World} {b o n : Nat} {cs : List CallD} {T : Nat → Prop} (h : RdCalls w (some ⟨b, o, none⟩) n cs T) (j : Nat) (hj : j < n * 5) : ∃ u, w.cell? ⟨b, o + j, none⟩ = some u ∧ u.oneCell' = true := by
  obtain ⟨b', o', vB, vK, hA, hT, h1, h2, h3, h4, h5, h6, h7⟩ := h.at_ (j / 5) (by have := h.len; omega)
  injection hA with hA
  injection hA with e1 e2
  subst e1 e2
  obtain ⟨BA, Bn, Bc, rfl⟩ := h6.bs.form
  obtain ⟨KA, Kn, Kc, rfl⟩ := h6.keep.form
  have hq : j % 5 = 0 ∨ j % 5 = 1 ∨ j % 5 = 2 ∨ j % 5 = 3 ∨ j % 5 = 4 := by omega
  rcases hq with q | q | q | q | q
  · exact ⟨_, by rw [show o + j = o + j / 5 * 5 by omega]; exact h1, rfl⟩
  · exact ⟨_, by rw [show o + j = o + j / 5 * 5 + 1 by omega]; exact h2, rfl⟩
  · exact ⟨_, by rw [show o + j = o + j / 5 * 5 + 2 by omega]; exact h3, rfl⟩
  · exact ⟨_, by rw [show o + j = o + j / 5 * 5 + 3 by omega]; exact h4, rfl⟩
  · exact ⟨_, by rw [show o + j = o + j / 5 * 5 + 4 by omega]; exact h5, rfl⟩
/-- The cells of the calls. -/
theorem calls_src {w : World} {A : Option Addr} {n cap : Nat} {cs : List CallD} {T : Nat → Prop} (h : RdCalls w A n cs T) :
    ∃ news : List Value, news.length = n * 5 ∧ (∀ w', Only (fun _ => False) w w' → Src Try.prog 5 48 (.slice A n cap) n news w') ∧ ∀ b o, A = some ⟨b, o, none⟩ → ∀ j, j < n * 5 → news[j]? = w.cell? ⟨b, o + j, none⟩ := by
  by_cases hn : n = 0
  · subst hn
    refine ⟨[], by simp, fun w' _ => ?_, fun b o _ j hj => by omega⟩
    cases A with
    | none => exact Src.ofNil w' Try.underlying48 cap
    | some a => exact Src.ofSlice w' Try.underlying48 a 0 cap [] rfl (fun j u hj => by cases hj) (fun u hu => by cases hu)
  · obtain ⟨b, o, vB, vK, rfl, _⟩ := h.at_ 0 (by have := h.len; omega)
    have hget : ∀ j, j < n * 5 → ((List.range (n * 5)).map fun j => (w.cell? ⟨b, o + j, none⟩).getD undef)[j]? = w.cell? ⟨b, o + j, none⟩ := fun j hj => by
      obtain ⟨u, hu, _⟩ := calls_cell h j hj
      rw [List.getElem?_map, List.getElem?_range hj, hu]
      simp [hu]
    refine ⟨(List.range (n * 5)).map fun j => (w.cell? ⟨b, o + j, none⟩).getD undef, by simp, fun w' ho => ?_, fun b' o' e j hj => ?_⟩
    · refine Src.ofSlice w' Try.underlying48 _ n cap _ (by simp) (fun j u hj => ?_) (fun u hu => ?_)
      · have hjl : j < n * 5 := by have := (List.getElem?_eq_some_iff.1 hj).1; simpa using this
        rw [hget j hjl] at hj
        rw [addr_eta _ rfl]
        exact ho.cell hj id
      · obtain ⟨j, hj, rfl⟩ := List.mem_map.1 hu
        obtain ⟨u, hu, h1⟩ := calls_cell h j (List.mem_range.1 hj)
        rw [hu]
        exact h1
    · injection e with e
      injection e with e1 e2
      subst e1 e2
      exact hget j hj

def lastCall (keep : List Int) : CallD := ⟨6, 0, 0, [], keep⟩
/-- The calls, and one more, in a row of my own. -/
theorem calls_own {w w2 : World} {A : Option Addr} {n : Nat} {cs : List CallD} {T : Nat → Prop} (h : RdCalls w A n cs T) {news : List Value} (hl : news.length = n * 5) (hnews : ∀ b o, A = some ⟨b, o, none⟩ → ∀ j, j < n * 5 → news[j]? = w.cell? ⟨b, o + j, none⟩)
    {S : Nat → Prop} (ho : Only S w w2) (hd : ∀ x, T x → ¬ S x) {keep : List Int} {K : Value} (hK : Rds w2 K (intsV keep)) (hKT : ∀ x, rdBlock K = some x → T x)
    {g c m2 : Nat} (hown : w2.ownsRow 0 51 5 (.slice (some ⟨g, 0, none⟩) m2 c) (n + 1) (news ++ [.int .i64 6, .int .i64 0, .int .i64 0, .slice none 0 0, K])) :
    RdCalls w2 (some ⟨g, 0, none⟩) (n + 1) (cs ++ [lastCall keep]) (fun x => T x ∨ x = g) := by
  have hc := hown.cells (g := g) rfl
  have hcell : ∀ j u, (news ++ [.int .i64 6, .int .i64 0, .int .i64 0, .slice none 0 0, K])[j]? = some u → w2.cell? ⟨g, 0 + j, none⟩ = some u := fun j u hj => by
    have := hc j u hj
    rwa [addr_eta _ rfl] at this
  have hlen := h.len
  refine ⟨by rw [List.length_append, hlen]; rfl, fun i hi => ?_⟩
  rw [List.length_append] at hi
  simp only [List.length_singleton] at hi
  by_cases hin : i < n
  · obtain ⟨b', o', vB, vK, hA, hT, h1, h2, h3, h4, h5, h6, h7⟩ := h.at_ i (by omega)
    have e : (cs ++ [lastCall keep]).getD i ⟨0, 0, 0, [], []⟩ = cs.getD i ⟨0, 0, 0, [], []⟩ := by
      rw [List.getD_eq_getElem?_getD, List.getElem?_append_left (by omega), ← List.getD_eq_getElem?_getD]
    rw [e]
    have hn' : ∀ q, q < 5 → (news ++ [.int .i64 6, .int .i64 0, .int .i64 0, .slice none 0 0, K])[i * 5 + q]? = w.cell? ⟨b', o' + (i * 5 + q), none⟩ := fun q hq => by
      rw [List.getElem?_append_left (by omega)]
      exact hnews b' o' hA _ (by omega)
    refine ⟨g, 0, vB, vK, rfl, .inr rfl, ?_, ?_, ?_, ?_, ?_, ?_, h7⟩
    · exact hcell (i * 5) _ (by rw [← h1]; exact hn' 0 (by omega))
    · rw [show 0 + i * 5 + 1 = 0 + (i * 5 + 1) by omega]
      exact hcell _ _ (by rw [hn' 1 (by omega), ← h2]; rfl)
    · rw [show 0 + i * 5 + 2 = 0 + (i * 5 + 2) by omega]
      exact hcell _ _ (by rw [hn' 2 (by omega), ← h3]; rfl)
    · rw [show 0 + i * 5 + 3 = 0 + (i * 5 + 3) by omega]
      exact hcell _ _ (by rw [hn' 3 (by omega), ← h4]; rfl)
    · rw [show 0 + i * 5 + 4 = 0 + (i * 5 + 4) by omega]
      exact hcell _ _ (by rw [hn' 4 (by omega), ← h5]; rfl)
    · have h6' := h6.only ho hd
      exact ⟨h6'.bs, h6'.keep, fun k hk => .inl (h6'.bsT k hk), fun k hk => .inl (h6'.keepT k hk)⟩
  · obtain rfl : i = n := by omega
    have e : (cs ++ [lastCall keep]).getD i ⟨0, 0, 0, [], []⟩ = lastCall keep := by
      rw [List.getD_eq_getElem?_getD, List.getElem?_append_right (by omega), hlen]
      simp
    rw [e]
    have hn' : ∀ q, q < 5 → (news ++ [.int .i64 6, .int .i64 0, .int .i64 0, .slice none 0 0, K])[i * 5 + q]? = [.int .i64 6, .int .i64 0, .int .i64 0, .slice none 0 0, K][q]? := fun q hq => by
      rw [List.getElem?_append_right (by omega), hl]
      congr 1
      omega
    refine ⟨g, 0, .slice none 0 0, K, rfl, .inr rfl, ?_, ?_, ?_, ?_, ?_, ⟨rds_nil _, hK, fun k hk => (by cases hk), fun k hk => .inl (hKT k hk)⟩, (by unfold lastCall; simp)⟩
    · exact hcell (i * 5) _ (hn' 0 (by omega))
    · rw [show 0 + i * 5 + 1 = 0 + (i * 5 + 1) by omega]
      exact hcell _ _ (hn' 1 (by omega))
    · rw [show 0 + i * 5 + 2 = 0 + (i * 5 + 2) by omega]
      exact hcell _ _ (hn' 2 (by omega))
    · rw [show 0 + i * 5 + 3 = 0 + (i * 5 + 3) by omega]
      exact hcell _ _ (hn' 3 (by omega))
    · rw [show 0 + i * 5 + 4 = 0 + (i * 5 + 4) by omega]
      exact hcell _ _ (hn' 4 (by omega))

def safeArr (s : Nat → Nat) : Array Value := #[.int .i64 (s 0), .int .i64 (s 1), .int .i64 (s 2), .int .i64 (s 3), .int .i64 (s 4), .int .i64 (s 5), .int .i64 (s 6), .int .i64 (s 7)]
theorem safeArr_at (s : Nat → Nat) {i : Nat} (h : i < 8) : (safeArr s)[i]? = some (.int .i64 (s i)) := by
  rcases lt8 h with rfl | rfl | rfl | rfl | rfl | rfl | rfl | rfl <;> rfl
theorem safeArr_set (s : Nat → Nat) {i : Nat} (h : i < 8) (n : Nat) : (safeArr s).setIfInBounds i (.int .i64 n) = safeArr (upd s i n) := by
  rcases lt8 h with rfl | rfl | rfl | rfl | rfl | rfl | rfl | rfl <;> rfl
def mix (f s : Nat → Nat) (k : Nat) : Nat → Nat := fun i => if i < k then f i else s i
theorem mix_zero (f s : Nat → Nat) : mix f s 0 = s := by funext i; simp [mix]
theorem mix_succ (f s : Nat → Nat) (k : Nat) : upd (mix f s k) k (f k) = mix f s (k + 1) := by
  funext i
  unfold upd mix
  by_cases h : i = k
  · subst h; simp
  · rw [if_neg h]
    by_cases h2 : i < k
    · rw [if_pos h2, if_pos (by omega)]
    · rw [if_neg h2, if_neg (by omega)]

/-- What stands behind each round of DiskCrashes. -/
structure CrIn (w wr : World) (b : Nat) (d : DS) (S : Nat → Prop) (g0 : Nat) (s : Nat → Nat) (A : Option Addr) (n : Nat) (cs : List CallD) (T : Nat → Prop) : Prop where
  held : Held wr b d S
  blk : wr.heap[g0]? = some (.cells (safeArr s) 59 (0, 0))
  cl : RdCalls wr A n cs T
  newS : ∀ x, S x → w.heap.size ≤ x
  gS : ¬ S g0
  gT : ¬ T g0
  gnew : w.heap.size ≤ g0
  tS : ∀ x, T x → ¬ S x
  tl : ∀ x, T x → x < wr.heap.size
  only : Only (fun _ => False) w wr
section
variable {w wr w' : World} {b : Nat} {d : DS} {S : Nat → Prop} {g0 : Nat} {s : Nat → Nat} {A : Option Addr} {n : Nat} {cs : List CallD} {T : Nat → Prop}
theorem CrIn.grow (h : CrIn w wr b d S g0 s A n cs T) (ho : Only (fun _ => False) wr w') : CrIn w w' b d S g0 s A n cs T :=
  ⟨h.held.only ho fun _ _ => id, ho.heap h.blk id, h.cl.only ho fun _ _ => id, h.newS, h.gS, h.gT, h.gnew, h.tS, fun x hx => Nat.lt_of_lt_of_le (h.tl x hx) ho.size, h.only.trans' ho⟩
theorem CrIn.step (h : CrIn w wr b d S g0 s A n cs T) {b' : Nat} {d' : DS} {S' : Nat → Prop} (h1 : Held w' b' d' S') (h2 : Stp S wr w' S') : CrIn w w' b' d' S' g0 s A n cs T :=
  ⟨h1, h2.only.heap h.blk h.gS, h.cl.only h2.only h.tS, fun x hx => (h2.foot x hx).elim (h.newS x) fun hl => Nat.le_trans h.only.size hl,
    fun hs => (h2.foot g0 hs).elim h.gS fun hl => by have := heap_lt h.blk; omega, h.gT, h.gnew, fun x hx hs => (h2.foot x hs).elim (h.tS x hx) fun hl => by have := h.tl x hx; omega,
    fun x hx => Nat.lt_of_lt_of_le (h.tl x hx) h2.only.size, h.only.trans h2.only fun x hx hs => by have := h.newS x hs; omega⟩
theorem CrIn.store (h : CrIn w wr b d S g0 s A n cs T) (ho : Only (fun x => x = g0) wr w') {s' : Nat → Nat} (hb : w'.heap[g0]? = some (.cells (safeArr s') 59 (0, 0))) : CrIn w w' b d S g0 s' A n cs T :=
  ⟨h.held.only ho fun x hx e => h.gS (e ▸ hx), hb, h.cl.only ho fun x hx e => h.gT (e ▸ hx), h.newS, h.gS, h.gT, h.gnew, h.tS, fun x hx => Nat.lt_of_lt_of_le (h.tl x hx) ho.size,
    h.only.trans ho fun x hx e => by have := h.gnew; omega⟩
end

end Go.Proofs.Ytldhpbmcpmebaaa
