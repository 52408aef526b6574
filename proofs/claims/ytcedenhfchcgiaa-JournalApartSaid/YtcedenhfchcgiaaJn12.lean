/- The law's begun, walked. -/
import Derived.Test.YtcedenhfchcgiaaJn11
import Derived.Lib.SlBytesConst
set_option linter.unusedVariables false
set_option linter.unusedSimpArgs false
namespace Go.Proofs.Ytcedenhfchcgiaa.Jn
open Go.RowKit Go.Shelf

theorem new_calm (n : Nat) : Calm (DS.new n) := ⟨rfl, rfl⟩
theorem new_used (n : Nat) : (DS.new n).used = 0 := rfl
theorem new_ok {n : Nat} (h : n ≤ 16777216) : (DS.new n).Ok := ⟨h, by rw [new_used]; omega, fun i hi => Nat.le_refl _, by simp [DS.new]⟩
theorem new_in (w : World) {n : Nat} (h : n ≤ 16777216) : DiskIn (w.alloc (.cells (diskArr (DS.new n) (fun _ => .slice none 0 0)) 55)) w.heap.size (DS.new n) (fun x => x = w.heap.size) :=
  ⟨new_ok h, _, new_at w n, fun k hk => hk.elim id fun ⟨i, hi, e⟩ => by cases e⟩
theorem rds_mark (w : World) (l : List UInt8) (hl : l.length ≤ 1000) (m : Nat × Nat) : Rds (w.alloc (.cells (bytesV l).toArray 5 m)) (.slice (some ⟨w.heap.size, 0, none⟩) l.length l.length) (bytesV l) := by
  refine ⟨some ⟨w.heap.size, 0, none⟩, l.length, by rw [bytesV_length], by rw [bytesV_length]; omega, by simp only [maxLen]; omega, (fun h => by cases h), (fun a ha _ => by cases ha; rfl), fun a ha j u hj => ?_⟩
  cases ha
  rw [addr_eta _ rfl]
  simp only [Nat.zero_add]
  rw [cell_of_heap (heap_alloc_new w _)]
  simpa using hj
theorem lit1 (w : World) : Rds (w.alloc (.cells #[.int .u8 97] 5 (1, 2))) (.slice (some ⟨w.heap.size, 0, none⟩) 1 1) (bytesV [97]) := rds_mark w [97] (by simp) _
theorem lit2 (w : World) : Rds (w.alloc (.cells #[.int .u8 98, .int .u8 99] 5 (2, 3))) (.slice (some ⟨w.heap.size, 0, none⟩) 2 2) (bytesV [98, 99]) := rds_mark w [98, 99] (by simp) _
theorem frames_ab : framesB ([[97]] ++ [[98, 99]]) = [1, 97, 2, 98, 99] := by
  simp [framesB, frameB, Cd.leb_small]

/-- A journal and its disk, both made since w0. -/
structure JS (w0 w : World) (b db f : Nat) (recs : List (List UInt8)) (d : DS) (R S : Nat → Prop) : Prop where
  jd : JD w b db f recs d R S
  calm : Calm d
  newR : ∀ x, R x → w0.heap.size ≤ x
  newS : ∀ x, S x → w0.heap.size ≤ x
  only : Only (fun _ => False) w0 w
  data : d.data f = framesB recs
theorem JS.grow {w0 w w2 : World} {b db f : Nat} {recs : List (List UInt8)} {d : DS} {R S : Nat → Prop} (h : JS w0 w b db f recs d R S) (ho : Only (fun _ => False) w w2) : JS w0 w2 b db f recs d R S :=
  ⟨⟨h.jd.jin.only ho fun _ _ => id, disk_keep h.jd.disk ho fun _ _ => id, fun k hk => Nat.lt_of_lt_of_le (h.jd.low k hk) ho.size, h.jd.dis⟩, h.calm, h.newR, h.newS, h.only.trans' ho, h.data⟩
/-- How a change ends. -/
def JSEnd (w0 w : World) (R0 S0 : Nat → Prop) (b db f : Nat) (recs : List (List UInt8)) (room used : Nat) (e : Ending) (w' : World) : Prop :=
  e = .returned (.int .i64 0) ∧ ∃ (R S : Nat → Prop) (d : DS), JS w0 w' b db f recs d R S ∧ d.room = room ∧ d.used ≤ used ∧ Only (fun k => R0 k ∨ S0 k) w w'
theorem JS.ended {w0 w w' : World} {b db f n : Nat} {recs recs' : List (List UInt8)} {d : DS} {R S : Nat → Prop} {e : Ending} (h : JS w0 w b db f recs d R S) (hE : JEnd w b db f d recs' (framesB recs') n R S e w') : JSEnd w0 w R S b db f recs' d.room (d.used + n) e w' := by
  obtain ⟨he, R', S', d', h1, h2, h3, h4, h5, h6, h7, h8⟩ := hE
  have hz := h.only.size
  refine ⟨he, R', S', d', ⟨h1, h2, fun x hx => (h7 x hx).elim (h.newR x) fun h => by omega, fun x hx => (h8 x hx).elim (h.newS x) fun h => by omega, h.only.trans h6 fun x hx e => ?_, ?_⟩, h3, h5, h6⟩
  · rcases e with e | e
    · have := h.newR x e; omega
    · have := h.newS x e; omega
  · rw [h4, upd_same]
theorem JS.append {w0 wa w : World} {b db f : Nat} {recs : List (List UInt8)} {d : DS} {R S : Nat → Prop} (h : JS w0 wa b db f recs d R S) (ho : Only (fun _ => False) wa w) (hf : f < 8) (x : Value) (l : List UInt8) (hx : Rds w x (bytesV l)) (hxS : ∀ k, rdBlock x = some k → k < w0.heap.size ∨ wa.heap.size ≤ k) (hl : l.length ≤ 1048576)
    (hu : d.used + (frameB l).length ≤ d.room) (hn : recs.length ≤ 1000) (hfr : (framesB recs).length ≤ 1000000000) :
    Calls Try.prog 9 #[.pointer (some ⟨b, 0, none⟩), x] w (JSEnd w0 w R S b db f (recs ++ [l]) d.room (d.used + (frameB l).length)) := by
  refine (jAppend2 (h.grow ho).jd h.calm hf x l hx (fun k hk => ?_) hl hu hn hfr h.data).mono fun e w' hE => (h.grow ho).ended hE
  rcases hxS k hk with h1 | h1
  · exact ⟨fun h2 => by have := h.newS k h2; omega, fun h2 => by have := h.newR k h2; omega⟩
  · exact ⟨fun h2 => by have := h.jd.low k h2; omega, fun h2 => by have := h.jd.jin.low k h2; omega⟩
theorem JS.sync {w0 w : World} {b db f : Nat} {recs : List (List UInt8)} {d : DS} {R S : Nat → Prop} (h : JS w0 w b db f recs d R S) (hf : f < 8) :
    Calls Try.prog 26 #[.pointer (some ⟨b, 0, none⟩)] w (JSEnd w0 w R S b db f recs d.room d.used) := by
  refine (jSync_any h.jd h.calm hf).mono fun e w' hE => ?_
  rw [h.data] at hE
  exact h.ended hE
theorem JS.read {w0 w : World} {b db f : Nat} {recs : List (List UInt8)} {d : DS} {R S : Nat → Prop} (h : JS w0 w b db f recs d R S) (hf : f < 8) :
    Calls Try.prog 17 #[.pointer (some ⟨db, 0, none⟩), .int .i64 f] w (ReadEnd w (framesB recs) 0) := by
  obtain ⟨hok, V, hA, hS⟩ := h.jd.disk
  have := read_any hA hok f
  rw [h.calm.code hf, if_pos rfl, Int.toNat_natCast, h.data] at this
  exact this

set_option maxRecDepth 100000 in
set_option maxHeartbeats 4000000 in
theorem begun_any (w : World) : Calls Try.prog 12 #[] w fun e w' => e = .returned (.bool true) ∧ Only (fun _ => False) w w' := by
  have HN := hide (new_any w 100 (by omega) (by omega))
  have kc := fun (w : World) (C : Array Value) (n c : Nat) => Lib.run_convert_bytes_const (P := Try.prog) w 23 5 C n c Try.underlying23 Try.underlying5
  go_enter Try.func12, Try.ntmps12
  go_wp2_with fail
  refine HN.out.mono ?_
  rintro e w1 ⟨rfl, rfl⟩
  have hnew := new_in w (n := 100) (by omega)
  have O1 := hide ((Only.refl (fun _ => False) w).alloc (.cells (diskArr (DS.new 100) (fun _ => .slice none 0 0)) 55))
  obtain ⟨w1, hw1⟩ : ∃ w1, w.alloc (.cells (diskArr (DS.new (Int.toNat 100)) (fun _ => .slice none 0 0)) 55) = w1 := ⟨_, rfl⟩
  have hw1' : w.alloc (.cells (diskArr (DS.new 100) (fun _ => .slice none 0 0)) 55) = w1 := hw1
  rw [hw1'] at hnew O1
  have hsz : w1.heap.size = w.heap.size + 1 := by rw [← hw1]; simp
  have HSz := hide hsz
  rw [hw1]
  have HOp := hide (open_any (w := w1) hnew (fun k hk => by rw [hk, hsz]; omega) (f := 2) (by omega) (new_calm 100) [] [] rfl (fun i hi => by cases hi) torn_nil (by simp))
  clear hnew hw1 hw1' hsz
  go_wp2_with fail
  refine HOp.out.mono ?_
  rintro e w2 ⟨b, R2, S2, d2, rfl, J2, L2, hO2, F2, C2, hroom, hdata, hused⟩
  have K2 : Hid (JS w w2 b w.heap.size 2 [] d2 R2 S2 ∧ d2.room = 100 ∧ d2.used = 0) := ⟨⟨J2, C2, fun x hx => by have := L2 x hx; have := HSz.out; omega, fun x hx => by have := HSz.out; rcases F2 x hx with h | h <;> omega, O1.out.trans hO2 fun x hx e => by omega, by rw [hdata, upd_same]⟩, hroom, by rw [new_used] at hused; omega⟩
  clear J2 L2 hO2 F2 C2 hroom hdata hused
  have HA := hide (K2.out.1.append ((Only.refl _ w2).alloc (.cells #[.int .u8 97] 5 (1, 2))) (by omega) _ [97] (lit1 w2) (fun k hk => by cases hk; exact .inr (Nat.le_refl _)) (by simp) (by rw [K2.out.2.1, K2.out.2.2]; simp [frameB, Cd.leb_small]) (by simp) (by simp [framesB]))
  go_wp2_with fail
  refine HA.out.mono ?_
  rintro e w3 ⟨rfl, R3, S3, d3, hJ3, hroom3, hused3, -⟩
  have K3 : Hid (JS w w3 b w.heap.size 2 [[97]] d3 R3 S3 ∧ d3.room = 100 ∧ d3.used ≤ 2) := ⟨hJ3, by rw [hroom3, K2.out.2.1], by rw [K2.out.2.2] at hused3; simp [frameB, Cd.leb_small] at hused3; omega⟩
  clear hJ3 hroom3 hused3
  go_wp2_with fail
  refine (K3.out.1.sync (by omega)).mono ?_
  rintro e w4 ⟨rfl, R4, S4, d4, hJ4, hroom4, hused4, -⟩
  have K4 : Hid (JS w w4 b w.heap.size 2 [[97]] d4 R4 S4 ∧ d4.room = 100 ∧ d4.used ≤ 2) := ⟨hJ4, by rw [hroom4, K3.out.2.1], by have := K3.out.2.2; omega⟩
  clear hJ4 hroom4 hused4
  have HA2 := hide (K4.out.1.append ((Only.refl _ w4).alloc (.cells #[.int .u8 98, .int .u8 99] 5 (2, 3))) (by omega) _ [98, 99] (lit2 w4) (fun k hk => by cases hk; exact .inr (Nat.le_refl _)) (by simp) (by rw [K4.out.2.1]; have := K4.out.2.2; simp [frameB, Cd.leb_small]; omega) (by simp) (by simp [framesB, frameB, Cd.leb_small]))
  go_wp2_with fail
  refine HA2.out.mono ?_
  rintro e w5 ⟨rfl, R5, S5, d5, hJ5, hroom5, hused5, -⟩
  have K5 := hide hJ5
  clear hJ5 hroom5 hused5
  have HR := hide (K5.out.read (by omega))
  rw [frames_ab] at HR
  go_wp2_with fail
  refine HR.out.mono ?_
  rintro e w6 ⟨v6, rfl, hown, hnew, hO6⟩
  obtain ⟨A6, n6, c6, rfl⟩ := own_form' hown
  have hcv := Cd.run_str (Rds.own hown)
  have K6 := hide (K5.out.grow hO6)
  have hst : (Cd.strOf [1, 97, 2, 98, 99]).toList = [1, 97, 2, 98, 99] := Cd.strOf_toList _
  clear hown hnew hO6
  go_wp2_with fail
  refine (len_any K6.out.jd.jin).mono ?_
  rintro e w7 ⟨rfl, rfl⟩
  go_wp2
  go_ret
  exact ⟨rfl, K6.out.only⟩

end Go.Proofs.Ytcedenhfchcgiaa.Jn
