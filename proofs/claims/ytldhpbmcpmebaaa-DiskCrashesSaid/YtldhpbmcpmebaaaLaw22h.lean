/- What DiskCopies holds at once: two disks, a list of files, a list of codes. -/
import Derived.Test.YtldhpbmcpmebaaaLaw22g
set_option linter.unusedVariables false
set_option linter.unusedSimpArgs false
namespace Go.Proofs.Ytldhpbmcpmebaaa
open Go.RowKit

theorem info_errno : (Try.prog.info? 24).map (fun i => (i.zero, i.size, i.bytes)) = some (some (.int .i64 0), 1, 8) := by kernel_rfl

/-- append of one code onto an owned list of codes. -/
theorem wp_appE {w : World} {ops : Array Oper} {rest : List Oper} {o : Oper} {a : Act} {Q : Exit → Act → World → Prop} (hgd : o.guard = none) (s x : Operand)
    (ho : o.op = .call { callee := .builtin .append, args := #[s, x], argTypes := #[64, 64] })
    (v : Value) (n : Nat) (vs : List Value) (hsv : a.eval s = v) (hown : w.ownsRow 0 24 1 v n vs) (g c : Nat) (u : Value) (hxv : a.eval x = .slice (some ⟨g, 0, none⟩) 1 c) (hu : w.cell? ⟨g, 0, none⟩ = some u) (h1 : u.oneCell' = true)
    (hn : n ≤ 1000000)
    (h : ∀ v' w', w'.ownsRow 0 24 1 v' (n + 1) (vs ++ [u]) → w.grownBy w' v.ownBlock → (v'.ownBlock = v.ownBlock ∨ ∃ k, v'.ownBlock = some k ∧ w.heap.size ≤ k) → wpList Try.prog ops Q rest (a.put o.dst v') w') : wpList Try.prog ops Q (o :: rest) a w := by
  obtain ⟨i0, hi, hz0, hz1, hz2⟩ := info_parts info_errno
  have hs : Src Try.prog 1 64 (.slice (some ⟨g, 0, none⟩) 1 c) 1 [u] w := Src.ofSlice w Try.underlying64 _ 1 c [u] rfl (fun j y hj => by
    cases j with
    | zero => cases hj; exact hu
    | succ j => cases hj) (fun y hy => by simp at hy; subst hy; exact h1)
  exact wpList_append_any hgd s x 64 64 ho 0 24 i0 (.int .i64 0) Try.underlying64 hi hz0 hz1 rfl v n vs hsv hown _ hxv 1 [u] hs (by simp only [maxLen]; omega) (by rw [hz2]; omega) (Nat.zero_le _) h

def codesV (d : DS) (cs : List CallD) (k : Nat) : List Value := (List.range k).map fun i => .int .i64 ((d.plays (cs.take i)).play (cs.getD i ⟨0, 0, 0, [], []⟩)).2
theorem codesV_succ (d : DS) (cs : List CallD) (k : Nat) : codesV d cs (k + 1) = codesV d cs k ++ [.int .i64 ((d.plays (cs.take k)).play (cs.getD k ⟨0, 0, 0, [], []⟩)).2] := by
  unfold codesV
  rw [List.range_succ, List.map_append]
  rfl
theorem codesV_length (d : DS) (cs : List CallD) (k : Nat) : (codesV d cs k).length = k := by simp [codesV]
theorem codesV_get (d : DS) (cs : List CallD) (k : Nat) {j : Nat} (hj : j < k) : (codesV d cs k).getD j undef = .int .i64 ((d.plays (cs.take j)).play (cs.getD j ⟨0, 0, 0, [], []⟩)).2 := by
  unfold codesV
  rw [List.getD_eq_getElem?_getD, List.getElem?_map, List.getElem?_range hj]
  rfl

structure CopyIn (w wr : World) (bd : Nat) (d : DS) (Sd : Nat → Prop) (by_ : Nat) (dy : DS) (Sy : Nat → Prop) (F : Value) (FL : List (List UInt8)) (T : Nat → Prop) (v : Value) (n : Nat) (cs : List Value) : Prop where
  hd : Held wr bd d Sd
  hy : Held wr by_ dy Sy
  fl : RdFS wr F FL T
  own : wr.ownsRow 0 24 1 v n cs
  dy_ : ∀ x, Sd x → ¬ Sy x
  td : ∀ x, T x → ¬ Sd x
  ty : ∀ x, T x → ¬ Sy x
  vd : ∀ x, v.ownBlock = some x → ¬ Sd x
  vy : ∀ x, v.ownBlock = some x → ¬ Sy x
  vt : ∀ x, v.ownBlock = some x → ¬ T x
  tl : ∀ x, T x → x < wr.heap.size
  newd : ∀ x, Sd x → w.heap.size ≤ x
  newy : ∀ x, Sy x → w.heap.size ≤ x
  newv : ∀ x, v.ownBlock = some x → w.heap.size ≤ x
  only : Only (fun _ => False) w wr
section
variable {w wr w' : World} {bd by_ n : Nat} {d dy : DS} {Sd Sy T : Nat → Prop} {F v : Value} {FL : List (List UInt8)} {cs : List Value}
theorem CopyIn.vlt (h : CopyIn w wr bd d Sd by_ dy Sy F FL T v n cs) {x : Nat} (hx : v.ownBlock = some x) : x < wr.heap.size := by
  obtain ⟨cur, hc⟩ := owns_block h.own hx
  exact heap_lt hc
theorem CopyIn.grow (h : CopyIn w wr bd d Sd by_ dy Sy F FL T v n cs) (ho : Only (fun _ => False) wr w') : CopyIn w w' bd d Sd by_ dy Sy F FL T v n cs :=
  ⟨h.hd.only ho fun _ _ => id, h.hy.only ho fun _ _ => id, h.fl.only ho fun _ _ => id, ho.owns h.own fun _ _ => id, h.dy_, h.td, h.ty, h.vd, h.vy, h.vt, fun x hx => Nat.lt_of_lt_of_le (h.tl x hx) ho.size, h.newd, h.newy, h.newv, h.only.trans' ho⟩
theorem CopyIn.stepY (h : CopyIn w wr bd d Sd by_ dy Sy F FL T v n cs) {b2 : Nat} {d2 : DS} {S2 : Nat → Prop} (h1 : Held w' b2 d2 S2) (h2 : Stp Sy wr w' S2) : CopyIn w w' bd d Sd b2 d2 S2 F FL T v n cs :=
  ⟨h.hd.only h2.only h.dy_, h1, h.fl.only h2.only h.ty, h2.only.owns h.own h.vy, fun x hx hs => (h2.foot x hs).elim (h.dy_ x hx) fun hl => by have := h.hd.lt x hx; omega, h.td,
    fun x hx hs => (h2.foot x hs).elim (h.ty x hx) fun hl => by have := h.tl x hx; omega, h.vd, fun x hx hs => (h2.foot x hs).elim (h.vy x hx) fun hl => by have := h.vlt hx; omega, h.vt,
    fun x hx => Nat.lt_of_lt_of_le (h.tl x hx) h2.only.size, h.newd, fun x hx => (h2.foot x hx).elim (h.newy x) fun hl => Nat.le_trans h.only.size hl, h.newv, h.only.trans h2.only fun x hx hs => by have := h.newy x hs; omega⟩
theorem CopyIn.stepD (h : CopyIn w wr bd d Sd by_ dy Sy F FL T v n cs) {b2 : Nat} {d2 : DS} {S2 : Nat → Prop} (h1 : Held w' b2 d2 S2) (h2 : Stp Sd wr w' S2) : CopyIn w w' b2 d2 S2 by_ dy Sy F FL T v n cs :=
  ⟨h1, h.hy.only h2.only (fun x hx hs => h.dy_ x hs hx), h.fl.only h2.only h.td, h2.only.owns h.own h.vd, fun x hx hs => (h2.foot x hx).elim (fun h3 => h.dy_ x h3 hs) fun hl => by have := h.hy.lt x hs; omega,
    fun x hx hs => (h2.foot x hs).elim (h.td x hx) fun hl => by have := h.tl x hx; omega, h.ty, fun x hx hs => (h2.foot x hs).elim (h.vd x hx) fun hl => by have := h.vlt hx; omega, h.vy, h.vt,
    fun x hx => Nat.lt_of_lt_of_le (h.tl x hx) h2.only.size, fun x hx => (h2.foot x hx).elim (h.newd x) fun hl => Nat.le_trans h.only.size hl, h.newy, h.newv, h.only.trans h2.only fun x hx hs => by have := h.newd x hs; omega⟩
theorem CopyIn.push (h : CopyIn w wr bd d Sd by_ dy Sy F FL T v n cs) {w2 : World} {v' : Value} {m : Nat} {cs' : List Value} (ho : Only (fun _ => False) wr w') (hv : w2.ownsRow 0 24 1 v' m cs') (hg : w'.grownBy w2 v.ownBlock) (hn : v'.ownBlock = v.ownBlock ∨ ∃ k, v'.ownBlock = some k ∧ w'.heap.size ≤ k) :
    CopyIn w w2 bd d Sd by_ dy Sy F FL T v' m cs' := by
  have h' := h.grow ho
  have hO : Only (fun x => v.ownBlock = some x) w' w2 := ⟨hg.os, hg.tape, hg.output, hg.size, fun x hx hn => hg.block x hx (fun e => hn e.symm)⟩
  refine ⟨h'.hd.only hO fun x hx e => h'.vd x e hx, h'.hy.only hO fun x hx e => h'.vy x e hx, h'.fl.only hO fun x hx e => h'.vt x e hx, hv, h'.dy_, h'.td, h'.ty, fun x hx hs => ?_, fun x hx hs => ?_, fun x hx hs => ?_,
    fun x hx => Nat.lt_of_lt_of_le (h'.tl x hx) hO.size, h'.newd, h'.newy, fun x hx => ?_, h'.only.grown hg fun x hx => .inr (h'.newv x hx)⟩
  · rcases hn with e | ⟨y, e, hy⟩
    · exact h'.vd x (by rw [← e]; exact hx) hs
    · rw [hx] at e; cases e; have := h'.hd.lt x hs; omega
  · rcases hn with e | ⟨y, e, hy⟩
    · exact h'.vy x (by rw [← e]; exact hx) hs
    · rw [hx] at e; cases e; have := h'.hy.lt x hs; omega
  · rcases hn with e | ⟨y, e, hy⟩
    · exact h'.vt x (by rw [← e]; exact hx) hs
    · rw [hx] at e; cases e; have := h'.tl x hs; omega
  · rcases hn with e | ⟨y, e, hy⟩
    · exact h'.newv x (by rw [← e]; exact hx)
    · rw [hx] at e; cases e; exact Nat.le_trans h'.only.size hy
end

theorem copy_held {w : World} {b : Nat} {d : DS} {S : Nat → Prop} (h : Held w b d S) :
    Calls Try.prog 39 #[.pointer (some ⟨b, 0, none⟩)] w fun e w' => ∃ b2 S2, e = .returned (.pointer (some ⟨b2, 0, none⟩)) ∧ Held w' b2 d S2 ∧ (∀ k, S2 k → w.heap.size ≤ k) ∧ Only (fun _ => False) w w' ∧ Held w' b d S := by
  refine (copy_any h.disk).mono ?_
  rintro e w' ⟨S', rfl, hd, hs, ho⟩
  obtain ⟨S0, hd0, hl, hsub⟩ := hd.tight
  exact ⟨_, S0, rfl, ⟨hd0, hl⟩, fun k hk => hs k (hsub k hk), ho, h.only ho fun _ _ => id⟩
theorem off_held {w : World} {b : Nat} {d : DS} {S : Nat → Prop} (h : Held w b d S) :
    Calls Try.prog 16 #[.pointer (some ⟨b, 0, none⟩)] w fun e w' => e = .returned (.bool d.off) ∧ w = w' := by
  obtain ⟨_, V, hA, _⟩ := h.disk
  exact off_any hA

end Go.Proofs.Ytldhpbmcpmebaaa
