/- DiskOwns, walked. -/
import Derived.Test.YtldhpbmcpmebaaaLaw22h
set_option linter.unusedVariables false
set_option linter.unusedSimpArgs false
namespace Go.Proofs.Ytldhpbmcpmebaaa
open Go.RowKit

/-- A slice of bytes of my own, whatever the bytes. -/
def OwnB (w : World) (v : Value) (n : Nat) : Prop := ∃ l : List UInt8, l.length = n ∧ w.ownsRow 0 5 1 v n (bytesV l)
theorem OwnB.only {S : Nat → Prop} {w w' : World} {v : Value} {n : Nat} (h : OwnB w v n) (ho : Only S w w') (hn : ∀ k, v.ownBlock = some k → ¬ S k) : OwnB w' v n := by
  obtain ⟨l, hl, h⟩ := h
  exact ⟨l, hl, ho.owns h hn⟩
theorem bytesV_set (l : List UInt8) (k : Nat) (z : UInt8) : bytesV (l.set k z) = (bytesV l).set k (.int .u8 z.toNat) := by
  unfold bytesV
  rw [List.map_set]
theorem OwnB.set {w : World} {g n c k : Nat} (h : OwnB w (.slice (some ⟨g, 0, none⟩) n c) n) (z : Int) (h0 : 0 ≤ z) (h1 : z < 256) : OwnB (w.setCell ⟨g, k, none⟩ (.int .u8 z)) (.slice (some ⟨g, 0, none⟩) n c) n := by
  obtain ⟨l, hl, hlen, ho⟩ := h
  refine ⟨l.set k (UInt8.ofNat z.toNat), by simpa using hl, by rw [bytesV_length, List.length_set]; rw [bytesV_length] at hlen; exact hlen, .inr ?_⟩
  rcases ho with ⟨ho, _⟩ | ⟨g', cap, cur, hv, hb, hh, hn, hc, hs, ht⟩
  · cases ho
  · injection hv with e1 e2 e3
    injection e1 with e1
    injection e1 with e1
    subst e1 e3
    refine ⟨g, c, _, rfl, hb, heap_setCell_at hh k _, hn, hc, by simpa using hs, ?_⟩
    rw [bytesV_set, ← ht]
    have e : ((UInt8.ofNat z.toNat).toNat : Int) = z := by
      rw [UInt8.toNat_ofNat']
      omega
    rw [e]
    simp [List.take_set]
theorem OwnB.at_ {w : World} {A : Option Addr} {n c : Nat} (h : OwnB w (.slice A n c) n) {k : Nat} (hk : k < n) : ∃ g z, A = some ⟨g, 0, none⟩ ∧ w.cell? ⟨g, k, none⟩ = some (.int .u8 z) ∧ w.frozen? ⟨g, k, none⟩ = false ∧ 0 ≤ z ∧ z < 256 := by
  obtain ⟨l, hl, ho⟩ := h
  have ho' := ho
  rcases ho.2 with ⟨h2, _⟩ | ⟨g, cap, cur, hv, hb, hh, hn, hc, hs, ht⟩
  · cases h2
    omega
  · injection hv with e1 e2 e3
    subst e1 e3
    have hc := ho'.cells (g := g) rfl k _ (bytesV_get l k (by omega))
    rw [addr_eta _ rfl] at hc
    simp only [Nat.zero_add] at hc
    have := l[k].toNat_lt
    exact ⟨g, _, rfl, hc, frozen_of_heap hh k, by omega, by omega⟩

/-- Behind an append onto nil. -/
theorem newOf {w w' : World} {v : Value} {n : Nat} {xs : List Value} (g1 : w'.ownsRow 0 5 1 v n xs) (g2 : w.grownBy w' (Value.slice none 0 0).ownBlock) (g3 : v.ownBlock = (Value.slice none 0 0).ownBlock ∨ ∃ k, v.ownBlock = some k ∧ w.heap.size ≤ k) :
    Only (fun _ => False) w w' ∧ ∀ k, v.ownBlock = some k → w.heap.size ≤ k ∧ k < w'.heap.size := by
  refine ⟨(Only.refl _ w).grown g2 (fun k hk => by cases hk), fun k hk => ⟨?_, ?_⟩⟩
  · rcases g3 with g3 | ⟨k', g3, h⟩
    · rw [g3] at hk; cases hk
    · rw [g3] at hk; injection hk with hk; omega
  · obtain ⟨cur, hc⟩ := owns_block g1 hk
    exact heap_lt hc

theorem OwnB.lt {w : World} {v : Value} {n k : Nat} (h : OwnB w v n) (hk : v.ownBlock = some k) : k < w.heap.size := by
  obtain ⟨l, _, h⟩ := h
  obtain ⟨cur, hc⟩ := owns_block h hk
  exact heap_lt hc
theorem own_n {w : World} {base : Nat} {e : TypeId} {size n n1 c : Nat} {A : Option Addr} {xs : List Value} (h : w.ownsRow base e size (.slice A n1 c) n xs) : n1 = n := by
  obtain ⟨A', c', e⟩ := own_form h
  injection e
/-- What stands behind each step of DiskOwns. -/
structure OwnIn (w wr : World) (b : Nat) (d : DS) (S : Nat → Prop) (v : Value) (n : Nat) (v2 : Value) (l : List UInt8) : Prop where
  held : Held wr b d S
  mine : OwnB wr v n
  want : Rds wr v2 (bytesV l)
  foot : ∀ k, S k → w.heap.size ≤ k
  vS : ∀ k, v.ownBlock = some k → ¬ S k ∧ v2.ownBlock ≠ some k ∧ w.heap.size ≤ k
  v2S : ∀ k, v2.ownBlock = some k → ¬ S k ∧ k < wr.heap.size
  only : Only (fun _ => False) w wr
theorem OwnIn.grow {w wr w' : World} {b : Nat} {d : DS} {S : Nat → Prop} {v : Value} {n : Nat} {v2 : Value} {l : List UInt8} (h : OwnIn w wr b d S v n v2 l) (ho : Only (fun _ => False) wr w') : OwnIn w w' b d S v n v2 l :=
  ⟨h.held.only ho fun _ _ => id, h.mine.only ho fun _ _ => id, h.want.only ho fun _ _ => id, h.foot, h.vS, fun k hk => ⟨(h.v2S k hk).1, Nat.lt_of_lt_of_le (h.v2S k hk).2 ho.size⟩, h.only.trans' ho⟩
theorem OwnIn.step {w wr w' : World} {b : Nat} {d d' : DS} {S S' : Nat → Prop} {v : Value} {n : Nat} {v2 : Value} {l : List UInt8} (h : OwnIn w wr b d S v n v2 l) (h1 : Held w' b d' S') (h2 : Stp S wr w' S') : OwnIn w w' b d' S' v n v2 l :=
  ⟨h1, h.mine.only h2.only fun k hk => (h.vS k hk).1, h.want.only h2.only fun k hk => (h.v2S k (rdBlock_own hk)).1,
    fun k hk => (h2.foot k hk).elim (h.foot k) fun hl => Nat.le_trans h.only.size hl,
    fun k hk => ⟨fun hs => (h2.foot k hs).elim (h.vS k hk).1 fun hl => by have := h.mine.lt hk; omega, (h.vS k hk).2⟩,
    fun k hk => ⟨fun hs => (h2.foot k hs).elim (h.v2S k hk).1 fun hl => by have := (h.v2S k hk).2; omega, Nat.lt_of_lt_of_le (h.v2S k hk).2 h2.only.size⟩,
    h.only.trans h2.only fun x hx hs => by have := h.foot x hs; omega⟩
theorem OwnIn.set {w wr : World} {b : Nat} {d : DS} {S : Nat → Prop} {g n c k : Nat} {v2 : Value} {l : List UInt8} (h : OwnIn w wr b d S (.slice (some ⟨g, 0, none⟩) n c) n v2 l) (z : Int) (h0 : 0 ≤ z) (h1 : z < 256) :
    OwnIn w (wr.setCell ⟨g, k, none⟩ (.int .u8 z)) b d S (.slice (some ⟨g, 0, none⟩) n c) n v2 l := by
  have ho : Only (fun x => x = g) wr (wr.setCell ⟨g, k, none⟩ (.int .u8 z)) := (Only.refl (fun x => x = g) wr).setCell (p := ⟨g, k, none⟩) (.inl rfl) _
  have hv := h.vS g rfl
  refine ⟨h.held.only ho fun x hx e => hv.1 (e ▸ hx), h.mine.set z h0 h1, h.want.only ho fun x hx e => hv.2.1 (by rw [← e]; exact rdBlock_own hx), h.foot, h.vS, fun k hk => ⟨(h.v2S k hk).1, Nat.lt_of_lt_of_le (h.v2S k hk).2 ho.size⟩, h.only.trans ho fun x hx e => by omega⟩
/-- Another slice to be changed: a new one. -/
theorem OwnIn.other {w wr w' : World} {b : Nat} {d : DS} {S : Nat → Prop} {v v' : Value} {n n' : Nat} {v2 : Value} {l : List UInt8} (h : OwnIn w wr b d S v n v2 l) (ho : Only (fun _ => False) wr w') (hm : OwnB w' v' n') (hn : NewB wr v') : OwnIn w w' b d S v' n' v2 l := by
  have g := h.grow ho
  refine ⟨g.held, hm, g.want, g.foot, fun k hk => ?_, g.v2S, g.only⟩
  have hk' : wr.heap.size ≤ k := by
    rcases hn with hn | ⟨k', hn, h'⟩
    · rw [hn] at hk; cases hk
    · rw [hn] at hk; injection hk with hk; omega
  exact ⟨fun hs => by have := h.held.lt k hs; omega, fun e => by have := (h.v2S k e).2; omega, Nat.le_trans h.only.size hk'⟩

def own0 : DS := DS.new 4000
theorem own_replace (i : Nat) (hi : i < 8) (l : List UInt8) (hl : l.length ≤ 2000) : own0.replace i l = (doReplace l own0 i, 0) := by
  have hu : own0.used = 0 := rfl
  have hf : own0.fits true l.length i = 0 := by
    unfold DS.fits
    rw [hu, if_neg]
    rw [show own0.room = 4000 from rfl]
    have : own0.len i = 0 := rfl
    simp only [if_true, this]
    omega
  unfold DS.replace DS.gate
  rw [if_neg (by decide), if_neg (by omega), Int.toNat_natCast, hf, if_neg (by decide), if_pos (by rfl)]
theorem own_code (i : Nat) (hi : i < 8) (l : List UInt8) : (doReplace l own0 i).code i = 0 := by
  unfold DS.code
  rw [if_neg (by show ¬ (false = true); decide), if_neg (by omega)]
theorem own_data (i : Nat) (l : List UInt8) : (doReplace l own0 i).data i = l := by
  unfold doReplace
  exact upd_same _ _ _
theorem own_append (i : Nat) (hi : i < 8) (l : List UInt8) (hl : l.length ≤ 2000) : (doReplace l own0 i).append i l = (doAppend l (doReplace l own0 i) i, 0) := by
  have hu := used_upd own0 hi l
  have h0 : own0.used = 0 := rfl
  have h1 : own0.len i = 0 := rfl
  have hu' : (doReplace l own0 i).used = l.length := by
    have e : (doReplace l own0 i).used = sumTo ({ own0 with data := upd own0.data i l } : DS).len 8 := rfl
    exact e.trans (by rw [h0, h1] at hu; exact (Nat.add_zero _).symm.trans (hu.trans (Nat.zero_add _)))
  have hf : (doReplace l own0 i).fits false l.length i = 0 := by
    unfold DS.fits
    rw [hu', if_neg]
    show ¬ (4000 : Nat) < _
    simp
    omega
  unfold DS.append DS.gate
  rw [if_neg (by show ¬ (false = true); decide), if_neg (by omega), Int.toNat_natCast, hf, if_neg (by decide), if_pos (by rfl)]
theorem own_len (i : Nat) (l : List UInt8) : (doAppend l (doReplace l own0 i) i).len i = 2 * l.length := by
  unfold doAppend
  rw [len_upd, if_pos rfl, own_data, List.length_append]
  omega
theorem own_code2 (i : Nat) (hi : i < 8) (l : List UInt8) : (doAppend l (doReplace l own0 i) i).code i = 0 := by
  unfold DS.code
  rw [if_neg (by show ¬ (false = true); decide), if_neg (by omega)]

theorem replace_held {w : World} {b : Nat} {d : DS} {S : Nat → Prop} (h : Held w b d S) (at_ : Int) (x : Value) (l : List UInt8) (hx : Rds w x (bytesV l)) (hxS : ∀ k, rdBlock x = some k → ¬ S k) (hl : l.length ≤ lim46) :
    Calls Try.prog 18 #[.pointer (some ⟨b, 0, none⟩), .int .i64 at_, x] w fun e w' => e = .returned (.int .i64 (d.replace at_ l).2) ∧ ∃ S', Held w' b (d.replace at_ l).1 S' ∧ Stp S w w' S' := by
  refine (replace_any h.disk h.lt at_ x l hx hxS hl).mono ?_
  intro e w' he
  obtain ⟨rfl, S', hd, hl', hs⟩ := gate_tight he
  exact ⟨rfl, S', ⟨hd, hl'⟩, hs⟩
theorem append_held {w : World} {b : Nat} {d : DS} {S : Nat → Prop} (h : Held w b d S) (at_ : Int) (x : Value) (l : List UInt8) (hx : Rds w x (bytesV l)) (hxS : ∀ k, rdBlock x = some k → ¬ S k) (hl : l.length ≤ lim46) :
    Calls Try.prog 21 #[.pointer (some ⟨b, 0, none⟩), .int .i64 at_, x] w fun e w' => e = .returned (.int .i64 (d.append at_ l).2) ∧ ∃ S', Held w' b (d.append at_ l).1 S' ∧ Stp S w w' S' := by
  refine (append_any h.disk h.lt at_ x l hx hxS hl).mono ?_
  intro e w' he
  obtain ⟨rfl, S', hd, hl', hs⟩ := gate_tight he
  exact ⟨rfl, S', ⟨hd, hl'⟩, hs⟩
theorem read_held {w : World} {b : Nat} {d : DS} {S : Nat → Prop} (h : Held w b d S) (at_ : Int) :
    Calls Try.prog 19 #[.pointer (some ⟨b, 0, none⟩), .int .i64 at_] w (ReadEnd w (if d.code at_ = 0 then d.data at_.toNat else []) (d.code at_)) := by
  obtain ⟨hok, V, hA, hS⟩ := h.disk
  exact read_any hA hok at_
theorem size_held {w : World} {b : Nat} {d : DS} {S : Nat → Prop} (h : Held w b d S) (at_ : Int) :
    Calls Try.prog 22 #[.pointer (some ⟨b, 0, none⟩), .int .i64 at_] w fun e w' => e = .returned (.tuple #[.int .i64 (if d.code at_ = 0 then d.len at_.toNat else 0), .int .i64 (d.code at_)]) ∧ w = w' := by
  obtain ⟨hok, V, hA, hS⟩ := h.disk
  exact size_any hA at_

set_option maxRecDepth 100000 in
set_option maxHeartbeats 4000000 in
theorem diskOwns_any {w : World} (A : Option Addr) (n cap : Nat) (l : List UInt8) (hr : Rds w (.slice A n cap) (bytesV l)) (hbl : ∀ k, rdBlock (.slice A n cap) = some k → k < w.heap.size) (file : Nat) (hf : file < 256) :
    Calls Try.prog 4 #[.slice A n cap, .int .u8 file] w fun e w' => e = .returned (.bool true) ∧ Only (fun _ => False) w w' := by
  obtain ⟨m, hmm⟩ : ∃ m, m = min n 2000 := ⟨_, rfl⟩
  have hmin : (if (2000 : Int) < (n : Int) then (2000 : Int) else n) = (m : Int) := by rw [hmm]; split <;> omega
  have hnl : n = l.length := by obtain ⟨A, c, e, _⟩ := hr; injection e with _ e _; rw [e, bytesV_length]
  have hnc : n ≤ cap := by obtain ⟨A, c, e, h, _⟩ := hr; injection e with _ e e2; rw [e, e2]; exact h
  have hmc : m ≤ cap := by omega
  have hr2 : Rds w (.slice A m cap) (bytesV (l.take m)) := by
    obtain ⟨A', c', e, h⟩ := hr.take
    injection e with e1 e2 e3
    subst e1 e3
    rw [bytesV_take]
    exact h m (by rw [bytesV_length]; omega)
  have hml : m = (l.take m).length := by rw [List.length_take]; omega
  have hb2 : ∀ k, rdBlock (.slice A m cap) = some k → k < w.heap.size := fun k hk => hbl k (rdBlock_le (by omega) hk)
  have hm2 : m ≤ 2000 := by omega
  generalize l.take m = l at *
  have HR := hide hr2
  have HM := hide hml
  have HB := hide hb2
  have hN := hide (new_held w 4000 (by omega) (by omega))
  clear hr hr2 hml hb2 hbl hmm hnl
  obtain ⟨i0, hi, hi8⟩ : ∃ i : Nat, (file : Int) % 8 = i ∧ i < 8 := ⟨file % 8, by omega, by omega⟩
  go_enter Try.func4, Try.ntmps4
  go_wp2_with (first
    | go_at_call 13; refine hN.out.mono ?_; rintro e w1 ⟨b, S0, rfl, h1, h2, h3⟩; have A0 := hide h1; have O0 := hide h2; have N0 := hide h3; clear h1 h2 h3
    | (at_builtin; refine wp_app rfl _ _ 33 rfl (.slice none 0 0) 0 [] rfl (World.ownsRow_nil _ _ _ _) _ rfl _ l ((HR.out.only O0.out (fun _ _ => id)).src Try.underlying33 (bytesV_one l)) (by have := HM.out; simp only [List.length_nil]; unfold lim47; omega) ?_; intro v1 w2 g1 g2 g3; rw [List.nil_append] at g1; obtain ⟨A1, n1, c1, rfl⟩ := own_form' g1; have P1 := hide g1; have Q1 := hide (newOf g1 g2 g3); clear g1 g2 g3)
    | (at_builtin; refine wp_app rfl _ _ 33 rfl (.slice none 0 0) 0 [] rfl (World.ownsRow_nil _ _ _ _) _ rfl _ l ((Rds.own P1.out).src Try.underlying33 (bytesV_one l)) (by have := HM.out; simp only [List.length_nil]; unfold lim47; omega) ?_; intro v2 w3 g1 g2 g3; rw [List.nil_append] at g1; obtain ⟨A2, n2, c2, rfl⟩ := own_form' g1; have P2 := hide g1; have Q2 := hide (newOf g1 g2 g3); clear g1 g2 g3))
  have K3 : Hid (OwnIn w w3 b own0 S0 (.slice A1 n1 c1) n1 (.slice A2 n2 c2) l) := by
    obtain ⟨o1, b1⟩ := Q1.out
    obtain ⟨o2, b2⟩ := Q2.out
    have e1 := own_n P1.out
    have h3 := (A0.out.only o1 fun _ _ => id).only o2 fun _ _ => id
    refine ⟨h3, ⟨l, e1.symm, by rw [e1]; exact o2.owns (e1 ▸ P1.out) fun _ _ => id⟩, Rds.own P2.out, N0.out, fun k hk => ?_, fun k hk => ⟨fun hs => ?_, (b2 k hk).2⟩, (O0.out.trans' o1).trans' o2⟩
    · have := b1 k hk
      have := O0.out.size
      exact ⟨fun hs => by have := A0.out.lt k hs; omega, fun e => by have := b2 k e; omega, by omega⟩
    · have := A0.out.lt k hs
      have := b2 k hk
      have := o1.size
      omega
  have R3 : Hid (Rds w3 (.slice A1 n1 c1) (bytesV l)) := (Rds.own P1.out).only Q2.out.1 fun _ _ => id
  have E1 : Hid (n1 = l.length) := own_n P1.out
  have E2 : Hid (n2 = l.length) := own_n P2.out
  have hl2 : l.length ≤ 2000 := by have := HM.out; omega
  have HR := hide (replace_held K3.out.held i0 _ l R3.out (fun k hk => (K3.out.vS k (rdBlock_own hk)).1) (by unfold lim46; omega))
  rw [own_replace i0 hi8 l hl2] at HR
  clear P1 P2 Q1 Q2 R3
  refine HR.out.mono ?_
  rintro e w4 ⟨rfl, S1, g1, g2⟩
  have K4 := hide (K3.out.step g1 g2)
  clear g1 g2 HR K3
  go_wp2_with fail
  have hn1 : n1 ≤ 2000 := by have := E1.out; omega
  go_loopw [48] (fun i wr => ∃ k : Nat, k ≤ n1 ∧ i = .int .i64 k ∧ OwnIn w wr b (doReplace l own0 i0) S1 (.slice A1 n1 c1) n1 (.slice A2 n2 c2) l) (fun i _ => n1 - (intOf i).toNat)
  case atStart => exact ⟨0, by omega, rfl, K4.out⟩
  case round =>
    obtain ⟨k, hk, rfl, hK⟩ := hrel
    by_cases hlt : k < n1
    · obtain ⟨g, z, rfl, hc, hz, z0, z1⟩ := hK.mine.at_ hlt
      have HK := hide hK
      clear hK
      go_wp2
      go_roundw
      case rel => exact ⟨k + 1, by omega, by go_num, HK.out.set _ (by omega) (by omega)⟩
      case measure => simp [intOf]; omega
    · obtain rfl : k = n1 := by omega
      have HR := hide (read_held hK.held i0)
      rw [own_code i0 hi8, if_pos rfl, Int.toNat_natCast, own_data] at HR
      have HK := hide hK
      clear hK hlt hk
      go_wp2_with fail
      refine HR.out.mono ?_
      rintro e w5 ⟨v3, rfl, g1, g2, g3⟩
      obtain ⟨A3, n3, c3, rfl⟩ := own_form' g1
      have E3 : Hid (n3 = l.length) := own_n g1
      have K5 := hide (HK.out.other (n' := n3) g3 ⟨l, E3.out.symm, by rw [E3.out]; exact E3.out ▸ g1⟩ g2)
      have hn3 : n3 ≤ 2000 := by have := E3.out; omega
      clear g1 g2 g3
      go_wp2_with fail
      go_loopw [66] (fun i wr => ∃ k : Nat, k ≤ n3 ∧ i = .int .i64 k ∧ OwnIn w wr b (doReplace l own0 i0) S1 (.slice A3 n3 c3) n3 (.slice A2 n2 c2) l) (fun i _ => n3 - (intOf i).toNat)
      case atStart => exact ⟨0, by omega, rfl, K5.out⟩
      case round =>
        obtain ⟨k, hk, rfl, hK⟩ := hrel
        by_cases hlt : k < n3
        · obtain ⟨g, z, rfl, hc, hz, z0, z1⟩ := hK.mine.at_ hlt
          have HK := hide hK
          clear hK
          go_wp2
          go_roundw
          case rel => exact ⟨k + 1, by omega, by go_num, HK.out.set _ (by omega) (by omega)⟩
          case measure => simp [intOf]; omega
        · obtain rfl : k = n3 := by omega
          have HR := hide (read_held hK.held i0)
          rw [own_code i0 hi8, if_pos rfl, Int.toNat_natCast, own_data] at HR
          have HK := hide hK
          clear hK hlt hk
          go_wp2_with fail
          refine HR.out.mono ?_
          rintro e w6 ⟨v4, rfl, g1, g2, g3⟩
          obtain ⟨A4, n4, c4, rfl⟩ := own_form' g1
          have K6 := hide (HK.out.grow g3)
          have HE := hide (bytesEqual_any (Rds.own g1) K6.out.want)
          rw [show decide (l = l) = true from decide_eq_true rfl] at HE
          clear g1 g2 g3
          go_wp2_with fail
          refine HE.out.mono ?_
          rintro e w7 ⟨rfl, rfl⟩
          have HA := hide (append_held K6.out.held i0 _ l K6.out.want (fun k hk => (K6.out.v2S k (rdBlock_own hk)).1) (by unfold lim46; omega))
          rw [own_append i0 hi8 l hl2] at HA
          go_wp2_with fail
          refine HA.out.mono ?_
          rintro e w8 ⟨rfl, S2, g1, g2⟩
          have K7 := hide (K6.out.step g1 g2)
          have HZ := hide (size_held g1 i0)
          rw [own_code2 i0 hi8, if_pos rfl, Int.toNat_natCast, own_len, ← E2.out] at HZ
          have hn2 : n2 ≤ 2000 := by have := E2.out; omega
          clear g1 g2
          go_wp2_with fail
          refine HZ.out.mono ?_
          rintro e w9 ⟨rfl, rfl⟩
          go_wp2_with (go_at_call 17; refine (begun22_any _).mono ?_; rintro e w2 ⟨rfl, h1⟩; have O1 := hide h1; clear h1)
          go_ret
          exact ⟨rfl, K7.out.only.trans' O1.out⟩

end Go.Proofs.Ytldhpbmcpmebaaa
