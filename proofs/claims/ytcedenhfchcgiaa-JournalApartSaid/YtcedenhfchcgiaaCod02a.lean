/- Words on bytes and texts for the codec: they name types of the program, no functions. -/
import Derived.Test.YtcedenhfchcgiaaBase
import Derived.Test.YtcedenhfchcgiaaProg
import Derived.Deep.RegionHeld3
import Derived.Laws.IdiomStrings
import Derived.Lib.BufferRead
import Derived.WalkSpells
import Derived.WalkLawsBesides
import Derived.Laws.BitsAllLaws
set_option linter.unusedVariables false
set_option linter.unusedSimpArgs false
namespace Go.Proofs.Ytcedenhfchcgiaa.Cd
open Go.RowKit

def NewB (w : World) (v : Value) : Prop := v.ownBlock = none ∨ ∃ k, v.ownBlock = some k ∧ w.heap.size ≤ k
theorem info_u8 : (Try.prog.info? 5).map (fun i => (i.zero, i.size, i.bytes)) = some (some (.int .u8 0), 1, 1) := by kernel_rfl
def lim47 : Nat := 140737488355328
theorem wp_app {w : World} {ops : Array Oper} {rest : List Oper} {o : Oper} {a : Act} {Q : Exit → Act → World → Prop} (hgd : o.guard = none) (s x : Operand) (tx : TypeId)
    (ho : o.op = .call { callee := .builtin .append, args := #[s, x], argTypes := #[23, tx] })
    (v : Value) (n : Nat) (l : List UInt8) (hsv : a.eval s = v) (hown : w.ownsRow 0 5 1 v n (bytesV l)) (xv : Value) (hxv : a.eval x = xv) (k : Nat) (m : List UInt8) (hs : Src Try.prog 1 tx xv k (bytesV m) w)
    (hb : l.length + m.length ≤ lim47)
    (h : ∀ v' w', w'.ownsRow 0 5 1 v' (l ++ m).length (bytesV (l ++ m)) → w.grownBy w' v.ownBlock → (v'.ownBlock = v.ownBlock ∨ ∃ k, v'.ownBlock = some k ∧ w.heap.size ≤ k) → wpList Try.prog ops Q rest (a.put o.dst v') w') : wpList Try.prog ops Q (o :: rest) a w := by
  obtain ⟨i0, hi, hz0, hz1, hz2⟩ := info_parts info_u8
  have h1 : n = l.length := by have := hown.1; rw [bytesV_length] at this; omega
  have h2 : k = m.length := by have := hs.newsLen; rw [bytesV_length] at this; omega
  subst h1 h2
  simp only [lim47] at hb
  refine wpList_append_any hgd s x 23 tx ho 0 5 i0 (.int .u8 0) Try.underlying23 hi hz0 hz1 rfl v _ (bytesV l) hsv hown xv hxv m.length (bytesV m) hs (by simp only [maxLen]; omega) (by rw [hz2]; omega) (Nat.zero_le _) fun v' w' h1 h2 h3 => h v' w' ?_ h2 h3
  rw [bytesV_append, List.length_append]
  exact h1
theorem own_form {w : World} {base : Nat} {e : TypeId} {size n : Nat} {v : Value} {xs : List Value} (h : w.ownsRow base e size v n xs) : ∃ A c, v = .slice A n c := by
  rcases h.2 with ⟨rfl, rfl⟩ | ⟨g, cap, cur, rfl, _⟩
  · exact ⟨none, 0, rfl⟩
  · exact ⟨_, cap, rfl⟩
theorem own_form' {w : World} {base : Nat} {e : TypeId} {size n : Nat} {v : Value} {xs : List Value} (h : w.ownsRow base e size v n xs) : ∃ A m c, v = .slice A m c := by
  obtain ⟨A, c, e⟩ := own_form h
  exact ⟨A, n, c, e⟩
theorem own_form_le {w : World} {base : Nat} {e : TypeId} {size n : Nat} {v : Value} {xs : List Value} (h : w.ownsRow base e size v n xs) : ∃ A c, v = .slice A n c ∧ n ≤ c := by
  rcases h.2 with ⟨rfl, rfl⟩ | ⟨g, cap, cur, rfl, _, _, hn, _⟩
  · exact ⟨none, 0, rfl, Nat.le_refl _⟩
  · exact ⟨_, cap, rfl, hn⟩
theorem own_take {w : World} {base : Nat} {e : TypeId} {n c : Nat} {A : Option Addr} {xs : List Value} (h : w.ownsRow base e 1 (.slice A n c) n xs) (m : Nat) (hm : m ≤ n) : w.ownsRow base e 1 (.slice A m c) m (xs.take m) := by
  obtain ⟨h1, h2⟩ := h
  refine ⟨by rw [List.length_take]; omega, ?_⟩
  rcases h2 with ⟨h2, rfl⟩ | ⟨g, cap, cur, hv, hb, hh, hn, hc, hs, ht⟩
  · obtain rfl : m = 0 := by omega
    exact .inl ⟨h2, rfl⟩
  · injection hv with e1 _ e3
    subst e1 e3
    refine .inr ⟨g, c, cur, rfl, hb, hh, by omega, hc, hs, ?_⟩
    rw [← ht, List.take_take, Nat.mul_one, Nat.mul_one, Nat.min_eq_left hm]
theorem owns_block {w : World} {base : Nat} {e : TypeId} {size n : Nat} {v : Value} {xs : List Value} (h : w.ownsRow base e size v n xs) {k : Nat} (hk : v.ownBlock = some k) : ∃ cur, w.heap[k]? = some (.cells cur e (0, 0)) := by
  rcases h.2 with ⟨rfl, _⟩ | ⟨g, cap, cur, rfl, _, hh, _⟩
  · cases hk
  · cases hk
    exact ⟨cur, hh⟩
theorem heap_lt {w : World} {k : Nat} {o : Obj} (h : w.heap[k]? = some o) : k < w.heap.size := (Array.getElem?_eq_some_iff.1 h).1
theorem cell_of_heap {w : World} {b : Nat} {cs : Array Value} {t : TypeId} {f : Nat × Nat} (h : w.heap[b]? = some (.cells cs t f)) (o : Nat) : w.cell? ⟨b, o, none⟩ = cs[o]? := by simp [World.cell?, h]
theorem frozen_of_heap {w : World} {b : Nat} {cs : Array Value} {t : TypeId} (h : w.heap[b]? = some (.cells cs t (0, 0))) (o : Nat) : w.frozen? ⟨b, o, none⟩ = false := by simp [World.frozen?, h]
theorem heap_setCell_at {w : World} {b : Nat} {cs : Array Value} {t : TypeId} {f : Nat × Nat} (h : w.heap[b]? = some (.cells cs t f)) (o : Nat) (v : Value) : (w.setCell ⟨b, o, none⟩ v).heap[b]? = some (.cells (cs.setIfInBounds o v) t f) := by
  simp [World.setCell, Array.getElem?_modify, h]
theorem step_app {w : World} {ops : Array Oper} {o : Oper} {a : Act} {K : Act → World → Prop} {Q : Exit → Act → World → Prop} {E : Prop} (hgd : o.guard = none) (s x : Operand) (tx : TypeId)
    (ho : o.op = .call { callee := .builtin .append, args := #[s, x], argTypes := #[23, tx] })
    (v : Value) (n : Nat) (l : List UInt8) (hsv : a.eval s = v) (hown : w.ownsRow 0 5 1 v n (bytesV l)) (xv : Value) (hxv : a.eval x = xv) (k : Nat) (m : List UInt8) (hs : Src Try.prog 1 tx xv k (bytesV m) w)
    (hb : l.length + m.length ≤ lim47)
    (h : ∀ v' w', w'.ownsRow 0 5 1 v' (l ++ m).length (bytesV (l ++ m)) → w.grownBy w' v.ownBlock → (v'.ownBlock = v.ownBlock ∨ ∃ k, v'.ownBlock = some k ∧ w.heap.size ≤ k) → K (a.put o.dst v') w') :
    if Region.wanted o (yielded ops a.tmps) = true then Oper.wp Try.prog o a w K Q else E := by
  have hw : Region.wanted o (yielded ops a.tmps) = true := by simp [Region.wanted, hgd]
  rw [if_pos hw]
  obtain ⟨i0, hi, hz0, hz1, hz2⟩ := info_parts info_u8
  have h1 : n = l.length := by have := hown.1; rw [bytesV_length] at this; omega
  have h2 : k = m.length := by have := hs.newsLen; rw [bytesV_length] at this; omega
  subst h1 h2
  simp only [lim47] at hb
  obtain ⟨v', w', hr, h2, h3, h4, _⟩ := run_append_any (P := Try.prog) w 0 23 tx o.type 5 i0 (.int .u8 0) Try.underlying23 hi hz0 hz1 rfl v _ (bytesV l) hown xv m.length (bytesV m) hs (by simp only [maxLen]; omega) (by rw [hz2]; omega) (Nat.zero_le _)
  unfold Oper.wp execOp
  simp only [ho, resolve, invoke, builtin, Sem.run_bind, Sem.run_pure, Result.andThen_ok, List.map_toArray, List.map_cons, List.map_nil, hsv, hxv, hr]
  refine h v' w' ?_ h3 h4
  rw [bytesV_append, List.length_append]
  exact h2
theorem toList_loop (bs : ByteArray) (n : Nat) : ∀ (i : Nat) (r : List UInt8), bs.size - i = n → ByteArray.toList.loop bs i r = r.reverse ++ bs.data.toList.drop i := by
  induction n with
  | zero =>
    intro i r h
    unfold ByteArray.toList.loop
    rw [if_neg (by omega)]
    rw [List.drop_eq_nil_of_le (by simpa using by show bs.data.size ≤ i; have : bs.size = bs.data.size := rfl; omega)]
    simp
  | succ n ih =>
    intro i r h
    unfold ByteArray.toList.loop
    rw [if_pos (by omega), ih (i + 1) _ (by omega)]
    have hi : i < bs.data.toList.length := by have : bs.size = bs.data.size := rfl; simp; omega
    rw [List.drop_eq_getElem_cons hi]
    have hg : bs.get! i = bs.data.toList[i] := by
      unfold ByteArray.get!
      simp at hi ⊢
      rw [getElem!_pos bs.data i (by simpa using hi)]
    rw [hg]
    simp
theorem bytes_toList (bs : ByteArray) : bs.toList = bs.data.toList := by
  unfold ByteArray.toList
  rw [toList_loop bs bs.size 0 [] (by omega)]
  simp
def strOf (l : List UInt8) : ByteArray := ⟨l.toArray⟩
theorem run_str {w : World} {v : Value} {l : List UInt8} (h : Rds w v (bytesV l)) : (convert 23 9 v).run Try.prog w = .ok (.string (strOf l)) w := by
  obtain ⟨A, cap, rfl, hle, _, hnil, _, hc⟩ := h
  rw [bytesV_length] at hle ⊢
  cases A with
  | none =>
    have h0 := hnil rfl
    subst h0
    have : l = [] := List.eq_nil_of_length_eq_zero (by omega)
    subst this
    exact Lib.run_convert_nil_bytes w _ _ 5 0 Try.underlying23 Try.underlying5 Try.underlying9
  | some a => exact run_convert_bytes_back w _ _ 5 a cap l Try.underlying23 Try.underlying5 Try.underlying9 fun j hj => hc a rfl j _ (bytesV_get l j hj)
theorem strOf_toList (l : List UInt8) : (strOf l).toList = l := by rw [bytes_toList]; simp [strOf]
theorem strOf_inj {l m : List UInt8} : strOf l = strOf m ↔ l = m := by
  unfold strOf
  constructor
  · intro h
    injection h with h
    simpa using h
  · rintro rfl; rfl
theorem rds_form {w : World} {v : Value} {xs : List Value} (h : Rds w v xs) : ∃ A n c, v = .slice A n c := by
  obtain ⟨A, cap, rfl, _⟩ := h
  exact ⟨A, _, cap, rfl⟩
theorem rds_nil (w : World) : Rds w (.slice none 0 0) [] := ⟨none, 0, rfl, Nat.le_refl _, by simp [maxLen], fun _ => rfl, (fun a h => by cases h), (fun a h => by cases h)⟩
theorem rds_take_n {w : World} {A : Option Addr} {n c : Nat} {l : List UInt8} (h : Rds w (.slice A n c) (bytesV l)) {m : Nat} (hm : m ≤ l.length) : Rds w (.slice A m c) (bytesV (l.take m)) := by
  obtain ⟨A', c', e, ht⟩ := h.take
  injection e with e1 e2 e3
  subst e1 e3
  rw [bytesV_take]
  exact ht m (by rw [bytesV_length]; exact hm)
theorem own_n {w : World} {base : Nat} {e : TypeId} {size n n1 c : Nat} {A : Option Addr} {xs : List Value} (h : w.ownsRow base e size (.slice A n1 c) n xs) : n1 = n := by
  obtain ⟨A', c', e⟩ := own_form h
  injection e
theorem rds_lt {w : World} {v : Value} {xs : List Value} (h : Rds w v xs) {k : Nat} (hk : rdBlock v = some k) : k < w.heap.size := by
  obtain ⟨A, cap, rfl, hle, _, _, _, hc⟩ := h
  cases A with
  | none => cases hk
  | some a =>
    simp only [rdBlock] at hk
    split at hk
    · cases hk
    · rename_i hn
      cases hk
      have h0 : 0 < xs.length := by omega
      have h1 := hc a rfl 0 _ (List.getElem?_eq_getElem h0)
      have : (a.add 0).block = a.block := by unfold Addr.add; split <;> rfl
      have h2 := World.block_lt_of_cell? w _ h1
      rw [this] at h2
      exact h2

/-- A slice of bytes that was made since w1. -/
structure Fresh (w1 w2 : World) (v : Value) (l : List UInt8) : Prop where
  own : w2.ownsRow 0 5 1 v l.length (bytesV l)
  only : Only (fun _ => False) w1 w2
  new : ∀ k, v.ownBlock = some k → w1.heap.size ≤ k
theorem Fresh.push {w1 w2 w3 : World} {v v' : Value} {l m : List UInt8} (h : Fresh w1 w2 v l) (g1 : w3.ownsRow 0 5 1 v' (l ++ m).length (bytesV (l ++ m))) (g2 : w2.grownBy w3 v.ownBlock)
    (g3 : v'.ownBlock = v.ownBlock ∨ ∃ k, v'.ownBlock = some k ∧ w2.heap.size ≤ k) : Fresh w1 w3 v' (l ++ m) := by
  refine ⟨g1, h.only.grown g2 fun k hk => .inr (h.new k hk), fun k hk => ?_⟩
  rcases g3 with g3 | ⟨k', g3, h'⟩
  · exact h.new k (by rw [← g3, hk])
  · rw [hk] at g3
    injection g3 with g3
    have := h.only.size
    omega
theorem Fresh.grow {w1 w2 w3 : World} {v : Value} {l : List UInt8} (h : Fresh w1 w2 v l) (ho : Only (fun _ => False) w2 w3) : Fresh w1 w3 v l := ⟨ho.owns h.own fun _ _ => id, h.only.trans' ho, h.new⟩
theorem Fresh.rds {w1 w2 : World} {v : Value} {l : List UInt8} (h : Fresh w1 w2 v l) : Rds w2 v (bytesV l) := Rds.own h.own
theorem Fresh.nil (w : World) : Fresh w w (.slice none 0 0) [] := ⟨World.ownsRow_nil _ _ _ _, Only.refl _ _, fun k hk => by cases hk⟩
/-- A function that hands back bytes of its own. -/
def BytesEnd (w : World) (l : List UInt8) (e : Ending) (w' : World) : Prop := ∃ v, e = .returned v ∧ Fresh w w' v l

/-- v' has come about from v by appends: nothing else was turned but v's own row. -/
structure Grows (w : World) (v : Value) (w' : World) (v' : Value) : Prop where
  only : Only (fun k => v.ownBlock = some k) w w'
  own : v'.ownBlock = v.ownBlock ∨ ∃ k, v'.ownBlock = some k ∧ w.heap.size ≤ k
theorem Grows.refl (w : World) (v : Value) : Grows w v w v := ⟨Only.refl _ _, .inl rfl⟩
theorem Grows.trans {w1 w2 w3 : World} {v1 v2 v3 : Value} (h : Grows w1 v1 w2 v2) (k : Grows w2 v2 w3 v3) : Grows w1 v1 w3 v3 := by
  refine ⟨h.only.trans k.only fun x hx e => ?_, ?_⟩
  · rcases h.own with g | ⟨y, g, hy⟩
    · rw [← g]; exact e
    · rw [g] at e; injection e with e; omega
  · rcases k.own with g | ⟨y, g, hy⟩
    · rw [g]; exact h.own
    · exact .inr ⟨y, g, Nat.le_trans h.only.size hy⟩
theorem Grows.push {w w1 w' : World} {v v' : Value} (ho : Only (fun _ => False) w w1) (g2 : w1.grownBy w' v.ownBlock) (g3 : v'.ownBlock = v.ownBlock ∨ ∃ k, v'.ownBlock = some k ∧ w1.heap.size ≤ k) : Grows w v w' v' :=
  ⟨(ho.mono fun _ _ h => h.elim).grown g2 fun k hk => .inl hk, g3.imp id fun ⟨k, h1, h2⟩ => ⟨k, h1, Nat.le_trans ho.size h2⟩⟩
theorem Grows.grow {w w1 w' : World} {v v' : Value} (h : Grows w v w1 v') (ho : Only (fun _ => False) w1 w') : Grows w v w' v' := ⟨h.only.trans' (ho.mono fun _ _ h => h.elim), h.own⟩
/-- A function that appends to bytes of one's own. -/
def PushEnd (w0 w : World) (v : Value) (l : List UInt8) (e : Ending) (w' : World) : Prop := ∃ v', e = .returned v' ∧ Fresh w0 w' v' l ∧ Grows w v w' v'

theorem src_one (w : World) (b : UInt8) (z : Int) (hz : z = (b.toNat : Int)) : Src Try.prog 1 23 (.slice (some ⟨w.heap.size, 0, none⟩) 1 1) 1 (bytesV [b]) (w.alloc (.cells #[.int .u8 z] 5)) := by
  subst hz
  refine Src.ofSlice _ Try.underlying23 _ 1 1 _ rfl (fun j u hj => ?_) (bytesV_one _)
  rw [addr_eta _ rfl]
  simp only [Nat.zero_add]
  rw [cell_of_heap (heap_alloc_new w _)]
  simpa [bytesV] using hj

/-- LEB128. -/
def leb (n : Nat) : List UInt8 := if n < 128 then [UInt8.ofNat n] else UInt8.ofNat (n % 128 + 128) :: leb (n / 128)
termination_by n
decreasing_by omega
theorem leb_small {n : Nat} (h : n < 128) : leb n = [UInt8.ofNat n] := by rw [leb, if_pos h]
theorem leb_big {n : Nat} (h : ¬ n < 128) : leb n = UInt8.ofNat (n % 128 + 128) :: leb (n / 128) := by rw [leb, if_neg h]

theorem leb_len (k : Nat) : ∀ n, n < 128 ^ (k + 1) → (leb n).length ≤ k + 1 := by
  induction k with
  | zero => intro n h; rw [leb_small (by simpa using h)]; exact Nat.le_refl _
  | succ k ih =>
    intro n h
    by_cases hn : n < 128
    · rw [leb_small hn]; simp
    · rw [leb_big hn, List.length_cons]
      have := ih (n / 128) (by rw [Nat.pow_succ] at h; omega)
      omega
theorem leb_len10 {n : Nat} (h : n < 18446744073709551616) : (leb n).length ≤ 10 := leb_len 9 n (by omega)
theorem byte_of {n : Nat} (h : n < 256) : ((UInt8.ofNat n).toNat : Int) = n := by rw [UInt8.toNat_ofNat']; omega

set_option maxHeartbeats 400000 in
theorem or128 : ∀ r : Fin 256, (r.val ||| 128) = r.val % 128 + 128 := by decide +kernel
theorem lebA (m : Nat) : bits .or .u8 ((m : Int) % 256) 128 = ((UInt8.ofNat (m % 128 + 128)).toNat : Int) := by
  have h := u8_or_nat (m % 256) 128 (by omega) (by omega)
  have e : ((m % 256 : Nat) : Int) = (m : Int) % 256 := by omega
  rw [e] at h
  rw [show (128 : Int) = ((128 : Nat) : Int) from rfl, h, or128 ⟨m % 256, by omega⟩, UInt8.toNat_ofNat']
  show (((m % 256) % 128 + 128 : Nat) : Int) = _
  omega
theorem lebB (m : Nat) (hm : m < 18446744073709551616) : (bits .or .u64 (bits .and .u64 (m : Int) 127) 128) % 256 = ((UInt8.ofNat (m % 128 + 128)).toNat : Int) := by
  have h := u64_and_nat m 127 hm (by omega)
  have e : m &&& 127 = m % 128 := Nat.and_two_pow_sub_one_eq_mod m 7
  rw [e] at h
  rw [show (127 : Int) = ((127 : Nat) : Int) from rfl, h]
  have h2 := u64_or_nat (m % 128) 128 (by omega) (by omega)
  rw [show (128 : Int) = ((128 : Nat) : Int) from rfl, h2, or128 ⟨m % 128, by omega⟩, UInt8.toNat_ofNat']
  show (((m % 128) % 128 + 128 : Nat) : Int) % 256 = _
  omega
theorem lebC (m : Nat) (hm : m < 128) : (m : Int) = ((UInt8.ofNat m).toNat : Int) := by rw [UInt8.toNat_ofNat']; omega
theorem lebD (m : Nat) (hm : m < 128) : (m : Int) % 256 = ((UInt8.ofNat m).toNat : Int) := by rw [UInt8.toNat_ofNat']; omega

set_option maxRecDepth 100000 in
set_option maxHeartbeats 1000000 in
theorem uintTo_any {w0 w : World} {v : Value} {l : List UInt8} (h : Fresh w0 w v l) (n : Nat) (hn : n < 18446744073709551616) (hl : l.length ≤ 1000000000) :
    Calls Try.prog 27 #[v, .int .u64 n] w (PushEnd w0 w v (l ++ leb n)) := by
  obtain ⟨A, k, c, rfl⟩ := own_form' h.own
  have H := hide h
  have hL0 := hide (leb_len10 hn)
  clear h
  go_enter Try.func27, Try.ntmps27
  go_wp2
  go_loopw [0, 1] (fun v i wr => ∃ (m : Nat) (l1 : List UInt8), i = .int .u64 m ∧ m < 18446744073709551616 ∧ Fresh w0 wr v l1 ∧ l1 ++ leb m = l ++ leb n ∧ Grows w (.slice A k c) wr v) (fun _ i _ => (intOf i).toNat)
  case atStart => exact ⟨n, l, rfl, hn, H.out, rfl, Grows.refl _ _⟩
  case round =>
    obtain ⟨m, l1, rfl, hm, hF, hL, hG⟩ := hrel
    obtain ⟨A1, k1, c1, rfl⟩ := own_form' hF.own
    have hlen : Hid (l1.length ≤ 1000000010) := by
      have h1 := congrArg List.length hL
      have h2 := hL0.out
      rw [List.length_append, List.length_append] at h1
      show _ ≤ _
      omega
    have HF := hide hF
    have HL := hide hL
    have HG := hide hG
    clear hF hL hG
    by_cases hlt : m < 128
    · go_wp2_with (at_builtin; refine wp_app rfl _ _ 23 rfl (.slice A1 k1 c1) _ l1 rfl (HF.out.grow ((Only.refl _ _).alloc _)).own _ rfl 1 [UInt8.ofNat m] (src_one wr _ _ (by first | exact lebC m hlt | exact lebD m hlt)) (by have := hlen.out; simp only [List.length_singleton]; unfold lim47; omega) ?_; intro v2 w2 g1 g2 g3; have F2 := hide ((HF.out.grow ((Only.refl _ _).alloc _)).push g1 g2 g3); have G2 := hide (HG.out.trans (Grows.push ((Only.refl _ _).alloc _) g2 g3)); clear g1 g2 g3)
      go_ret
      refine ⟨_, rfl, ?_, G2.out⟩
      have := F2.out
      rw [← leb_small hlt, HL.out] at this
      exact this
    · go_wp2_with (at_builtin; refine wp_app rfl _ _ 23 rfl (.slice A1 k1 c1) _ l1 rfl (HF.out.grow ((Only.refl _ _).alloc _)).own _ rfl 1 [UInt8.ofNat (m % 128 + 128)] (src_one wr _ _ (lebA m)) (by have := hlen.out; simp only [List.length_singleton]; unfold lim47; omega) ?_; intro v2 w2 g1 g2 g3; have F2 := hide ((HF.out.grow ((Only.refl _ _).alloc _)).push g1 g2 g3); have G2 := hide (HG.out.trans (Grows.push ((Only.refl _ _).alloc _) g2 g3)); clear g1 g2 g3)
      go_roundw
      case rel => exact ⟨m / 128, l1 ++ [UInt8.ofNat (m % 128 + 128)], by go_num, by omega, F2.out, by rw [← HL.out, leb_big hlt, List.append_assoc]; rfl, G2.out⟩
      case measure => simp [intOf]; omega

end Go.Proofs.Ytcedenhfchcgiaa.Cd
