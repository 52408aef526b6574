/- The disk's small functions, walked. -/
import Derived.Test.YtcedenhfchcgiaaDiskRep
import Derived.WalkSpells
import Derived.WalkLawsBesides
set_option linter.unusedVariables false
set_option linter.unusedSimpArgs false
namespace Go.Proofs.Ytcedenhfchcgiaa
open Go.RowKit

def NewB (w : World) (v : Value) : Prop := v.ownBlock = none ∨ ∃ k, v.ownBlock = some k ∧ w.heap.size ≤ k

theorem info_u8 : (Try.prog.info? 5).map (fun i => (i.zero, i.size, i.bytes)) = some (some (.int .u8 0), 1, 1) := by kernel_rfl

def Cloned (w : World) (l : List UInt8) (e : Ending) (w' : World) : Prop :=
  ∃ v, e = .returned v ∧ w'.ownsRow 0 5 1 v l.length (bytesV l) ∧ NewB w v ∧ Only (fun _ => False) w w'

theorem clone_nil (w : World) : Calls Try.prog 24 #[.slice none 0 0] w (Cloned w []) := by
  have hq := fun (W : World) (A : Option Addr) (n c : Nat) => Lib.run_eql_slice_nil (P := Try.prog) W 23 5 A n c 0 0 Try.underlying23
  go_enter Try.func24, Try.ntmps24
  go_wp2
  go_ret
  exact ⟨_, rfl, World.ownsRow_nil _ _ _ _, .inl rfl, Only.refl _ _⟩

def lim47 : Nat := 140737488355328
/-- append of bytes onto an owned slice of bytes, as an arm of a walk. -/
theorem wp_app {w : World} {ops : Array Oper} {rest : List Oper} {o : Oper} {a : Act} {Q : Exit → Act → World → Prop} (hgd : o.guard = none) (s x : Operand) (tx : TypeId)
    (ho : o.op = .call { callee := .builtin .append, args := #[s, x], argTypes := #[23, tx] })
    (v : Value) (n : Nat) (l : List UInt8) (hsv : a.eval s = v) (hown : w.ownsRow 0 5 1 v n (bytesV l)) (xv : Value) (hxv : a.eval x = xv) (k : Nat) (m : List UInt8) (hs : Src Try.prog 1 tx xv k (bytesV m) w)
    (hb : l.length + m.length ≤ lim47)
    (h : ∀ v' w', w'.ownsRow 0 5 1 v' (l ++ m).length (bytesV (l ++ m)) → w.grownBy w' v.ownBlock → (v'.ownBlock = v.ownBlock ∨ ∃ k, v'.ownBlock = some k ∧ w.heap.size ≤ k) → wpList Try.prog ops Q rest (a.put o.dst v') w') : wpList Try.prog ops Q (o :: rest) a w := by
  obtain ⟨i0, hi, hz0, hz1, hz2⟩ := info_parts info_u8
  have h1 : n = l.length := by have := hown.1; rw [bytesV_length] at this; omega
  have h2 : k = m.length := by have := hs.newsLen; rw [bytesV_length] at this; omega
  subst h1 h2
  simp only [lim47] at hb
  refine wpList_append_any hgd s x 23 tx ho 0 5 i0 (.int .u8 0) Try.underlying23 hi hz0 hz1 rfl v _ (bytesV l) hsv hown xv hxv m.length (bytesV m) hs (by simp only [maxLen]; omega) (by rw [hz2]; omega) (Nat.zero_le _) fun v' w' h1 h2 h3 => h v' w' ?_ h2 h3
  rw [bytesV_append, List.length_append]
  exact h1

theorem clone_some (w : World) (a : Addr) (n cap : Nat) (l : List UInt8) (h : Rds w (.slice (some a) n cap) (bytesV l)) (hl : l.length ≤ lim47) :
    Calls Try.prog 24 #[.slice (some a) n cap] w (Cloned w l) := by
  have hs := (h.only ((Only.refl (fun _ => False) w).alloc (.cells #[] 5)) (by simp)).src (P := Try.prog) Try.underlying23 (bytesV_one l)
  have hown : (w.alloc (.cells #[] 5)).ownsRow 0 5 1 (.slice (some ⟨w.heap.size, 0, none⟩) 0 0) 0 (bytesV []) := World.ownsRow_made w #[] 0 (by omega) (by simp [maxLen]) (by simp)
  have hq := fun (W : World) (A : Option Addr) (n c : Nat) => Lib.run_eql_slice_nil (P := Try.prog) W 23 5 A n c 0 0 Try.underlying23
  go_enter Try.func24, Try.ntmps24
  go_wp2_with (at_builtin; refine wp_app rfl _ _ 23 rfl (.slice (some ⟨w.heap.size, 0, none⟩) 0 0) 0 [] rfl hown _ rfl _ l hs (by simpa using hl) ?_; clear hs hown; intro v' w1 h1 h2 h3)
  go_ret
  refine ⟨v', rfl, by simpa using h1, ?_, ?_⟩
  · rcases h3 with h3 | ⟨k, h3, hk⟩
    · exact .inr ⟨_, h3, Nat.le_refl _⟩
    · exact .inr ⟨k, h3, by simp at hk; omega⟩
  · exact ((Only.refl _ w).alloc _).grown h2 fun k hk => by
      simp [Value.ownBlock] at hk
      omega

theorem clone_any (w : World) (v : Value) (l : List UInt8) (h : Rds w v (bytesV l)) (hl : l.length ≤ lim47) :
    Calls Try.prog 24 #[v] w (Cloned w l) := by
  have h0 := h
  obtain ⟨A, cap, rfl, hle, hcm, hnil, hsp, hc⟩ := h
  cases A with
  | some a => exact clone_some w a _ cap l h0 hl
  | none =>
    have hc0 := hnil rfl
    subst hc0
    have h1 : bytesV l = [] := List.eq_nil_of_length_eq_zero (by omega)
    have h2 : l = [] := by simpa [bytesV] using h1
    subst h2
    exact clone_nil w


theorem own_form {w : World} {base : Nat} {e : TypeId} {size n : Nat} {v : Value} {xs : List Value} (h : w.ownsRow base e size v n xs) : ∃ A c, v = .slice A n c := by
  rcases h.2 with ⟨rfl, rfl⟩ | ⟨g, cap, cur, rfl, _⟩
  · exact ⟨none, 0, rfl⟩
  · exact ⟨_, cap, rfl⟩

theorem own_form' {w : World} {base : Nat} {e : TypeId} {size n : Nat} {v : Value} {xs : List Value} (h : w.ownsRow base e size v n xs) : ∃ A m c, v = .slice A m c := by
  obtain ⟨A, c, e⟩ := own_form h
  exact ⟨A, n, c, e⟩

theorem own_form_le {w : World} {base : Nat} {e : TypeId} {size n : Nat} {v : Value} {xs : List Value} (h : w.ownsRow base e size v n xs) : ∃ A c, v = .slice A n c ∧ n ≤ c := by
  rcases h.2 with ⟨rfl, rfl⟩ | ⟨g, cap, cur, rfl, _, _, hn, _⟩
  · exact ⟨none, 0, rfl, Nat.le_refl _⟩
  · exact ⟨_, cap, rfl, hn⟩
theorem own_take {w : World} {base : Nat} {e : TypeId} {n c : Nat} {A : Option Addr} {xs : List Value} (h : w.ownsRow base e 1 (.slice A n c) n xs) (m : Nat) (hm : m ≤ n) : w.ownsRow base e 1 (.slice A m c) m (xs.take m) := by
  obtain ⟨h1, h2⟩ := h
  refine ⟨by rw [List.length_take]; omega, ?_⟩
  rcases h2 with ⟨h2, rfl⟩ | ⟨g, cap, cur, hv, hb, hh, hn, hc, hs, ht⟩
  · obtain rfl : m = 0 := by omega
    exact .inl ⟨h2, rfl⟩
  · injection hv with e1 _ e3
    subst e1 e3
    refine .inr ⟨g, c, cur, rfl, hb, hh, by omega, hc, hs, ?_⟩
    rw [← ht, List.take_take, Nat.mul_one, Nat.mul_one, Nat.min_eq_left hm]

theorem used_any {w : World} {b : Nat} {d : DS} {V : Nat → Value} (h : DiskAt w b d V) (hu : d.used ≤ 16777216) :
    Calls Try.prog 41 #[.pointer (some ⟨b, 0, none⟩)] w fun e w' => e = .returned (.int .i64 d.used) ∧ w = w' := by
  have H : Hid (∀ i, i < 8 → ∃ A c, w.cell? ⟨b, 1 + i * 2, none⟩ = some (.slice A (d.len i) c)) := fun i hi => by
    obtain ⟨A, c, e⟩ := own_form (h.own i hi)
    exact ⟨A, c, by rw [← e]; exact h.cell_data hi⟩
  have HS : Hid (∀ k, k ≤ 8 → sumTo d.len k ≤ 16777216) := fun k hk => Nat.le_trans (sumTo_mono d.len hk) hu
  clear h hu
  go_enter Try.func41, Try.ntmps41
  go_wp2
  go_loop [3, 5] (fun s i => ∃ k : Nat, k ≤ 8 ∧ i = .int .i64 k ∧ s = .int .i64 (sumTo d.len k)) (fun _ i => 8 - (intOf i).toNat)
  case atStart => exact ⟨0, by omega, rfl, rfl⟩
  case round =>
    obtain ⟨k, hk, rfl, rfl⟩ := hrel
    by_cases hlt : k < 8
    · obtain ⟨A, c, hc⟩ := H.out k hlt
      have h1 := HS.out (k+1) (by omega)
      simp only [sumTo] at h1
      have h2 := HS.out k (by omega)
      go_wp2
      go_round
      case rel => exact ⟨k + 1, by omega, by go_num, by simp only [sumTo]; go_num⟩
      case measure => simp [intOf]; omega
    · obtain rfl : k = 8 := by omega
      go_wp2
      go_ret
      exact ⟨rfl, rfl⟩

/-- The code of Read and Size for a file. -/
def DS.code (d : DS) (at_ : Int) : Int := if d.off then 220 else if at_ < 0 ∨ 8 ≤ at_ then 1 else 0

theorem size_any {w : World} {b : Nat} {d : DS} {V : Nat → Value} (h : DiskAt w b d V) (at_ : Int) :
    Calls Try.prog 15 #[.pointer (some ⟨b, 0, none⟩), .int .i64 at_] w fun e w' => e = .returned (.tuple #[.int .i64 (if d.code at_ = 0 then d.len at_.toNat else 0), .int .i64 (d.code at_)]) ∧ w = w' := by
  have hc := h.cell_off
  cases ho : d.off with
  | true =>
    rw [ho] at hc
    have e1 : d.code at_ = 220 := by simp [DS.code, ho]
    rw [e1]
    clear e1 ho h
    go_enter Try.func15, Try.ntmps15
    go_wp2
    go_ret2
    exact ⟨rfl, rfl⟩
  | false =>
    rw [ho] at hc
    by_cases h1 : at_ < 0
    · have e1 : d.code at_ = 1 := by simp [DS.code, ho, h1]
      rw [e1]
      clear e1 ho h
      go_enter Try.func15, Try.ntmps15
      go_wp2
      go_ret2
      exact ⟨rfl, rfl⟩
    · by_cases h2 : 8 ≤ at_
      · have e1 : d.code at_ = 1 := by simp [DS.code, ho, h2]
        rw [e1]
        clear e1 ho h
        go_enter Try.func15, Try.ntmps15
        go_wp2
        go_ret2
        exact ⟨rfl, rfl⟩
      · obtain ⟨k, rfl⟩ := Int.eq_ofNat_of_zero_le (show 0 ≤ at_ by omega)
        have hk : k < 8 := by omega
        have e1 : d.code k = 0 := by simp [DS.code, ho]; omega
        rw [e1]
        obtain ⟨A, c, e⟩ := own_form (h.own k hk)
        have hd := h.cell_data hk
        rw [e] at hd
        clear e1 ho h e
        go_enter Try.func15, Try.ntmps15
        go_wp2
        go_ret2
        exact ⟨rfl, rfl⟩

end Go.Proofs.Ytcedenhfchcgiaa
