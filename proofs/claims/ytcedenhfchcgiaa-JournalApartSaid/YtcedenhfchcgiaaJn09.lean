/- journal.Open, walked: of a file that holds whole records and then perhaps a torn one, on a disk that is on and has no plan. -/
import Derived.Test.YtcedenhfchcgiaaJn08
set_option linter.unusedVariables false
set_option linter.unusedSimpArgs false
namespace Go.Proofs.Ytcedenhfchcgiaa.Jn
open Go.RowKit Go.Shelf

/-- A disk that is on, without a plan. -/
structure Calm (d : DS) : Prop where
  off : d.off = false
  plan : d.plan = 0
theorem Calm.code {d : DS} (h : Calm d) {f : Nat} (hf : f < 8) : d.code (f : Int) = 0 := by
  unfold DS.code
  rw [h.off, if_neg (by simp), if_neg (by omega)]
theorem Calm.gate {d : DS} (h : Calm d) {f : Nat} (hf : f < 8) (ec : Nat → Int) (he : ec f = 0) (doF tornF : DS → Nat → DS) : d.gate (f : Int) ec doF tornF = (doF d f, 0) := by
  unfold DS.gate
  rw [h.off, if_neg (by simp), if_neg (by omega), Int.toNat_natCast, if_neg (by simp [he]), if_pos h.plan]
theorem truncate_calm {d : DS} (h : Calm d) {f n : Nat} (hf : f < 8) (hn : n ≤ d.len f) : d.truncate (f : Int) (n : Int) = (doTruncate n d f, 0) := by
  unfold DS.truncate
  rw [h.gate hf _ (by unfold DS.cut; rw [if_neg (by omega)]), Int.toNat_natCast]
theorem append_calm {d : DS} (h : Calm d) {f : Nat} (hf : f < 8) {l : List UInt8} (hu : d.used + l.length ≤ d.room) : d.append (f : Int) l = (doAppend l d f, 0) := by
  unfold DS.append
  rw [h.gate hf _ (by unfold DS.fits; rw [if_neg (by simp; omega)])]
theorem replace_calm {d : DS} (h : Calm d) {f : Nat} (hf : f < 8) {l : List UInt8} (hu : d.used + l.length ≤ d.room) : d.replace (f : Int) l = (doReplace l d f, 0) := by
  unfold DS.replace
  rw [h.gate hf _ (by unfold DS.fits; rw [if_neg (by simp; omega)])]
theorem sync_calm {d : DS} (h : Calm d) {f : Nat} (hf : f < 8) : d.sync (f : Int) = (doSync d f, 0) := by
  unfold DS.sync
  rw [h.gate hf _ rfl]
theorem used_append (d : DS) {f : Nat} (hf : f < 8) (l : List UInt8) : (doAppend l d f).used = d.used + l.length := by
  have := used_upd d hf (d.data f ++ l)
  rw [List.length_append] at this
  unfold DS.len at this
  show sumTo (doAppend l d f).len 8 = _
  have e : (doAppend l d f).len = ({ d with data := upd d.data f (d.data f ++ l) } : DS).len := rfl
  rw [e]
  unfold DS.len at *
  omega
theorem used_replace (d : DS) {f : Nat} (hf : f < 8) (l : List UInt8) : (doReplace l d f).used ≤ d.used + l.length := by
  have := used_upd d hf l
  show sumTo (doReplace l d f).len 8 ≤ _
  have e : (doReplace l d f).len = ({ d with data := upd d.data f l } : DS).len := rfl
  rw [e]
  omega
theorem used_truncate (d : DS) {f n : Nat} (hf : f < 8) : (doTruncate n d f).used ≤ d.used := by
  have := used_upd d hf ((d.data f).take n)
  rw [List.length_take] at this
  show sumTo (doTruncate n d f).len 8 ≤ _
  have e : (doTruncate n d f).len = ({ d with data := upd d.data f ((d.data f).take n) } : DS).len := rfl
  rw [e]
  unfold DS.len at *
  omega

/-- A journal, its disk, nothing shared. -/
structure JD (w : World) (b db : Nat) (file : Nat) (recs : List (List UInt8)) (d : DS) (R S : Nat → Prop) : Prop where
  jin : JIn w b db file recs R
  disk : DiskIn w db d S
  low : FootLt w S
  dis : ∀ k, R k → ¬ S k

/-- How Open ends. -/
def OpenEnd (w : World) (db f : Nat) (d : DS) (recs : List (List UInt8)) (S : Nat → Prop) (e : Ending) (w' : World) : Prop :=
  ∃ (b : Nat) (R' S' : Nat → Prop) (d' : DS), e = .returned (.tuple #[.pointer (some ⟨b, 0, none⟩), .int .i64 0]) ∧ JD w' b db f recs d' R' S' ∧ (∀ x, R' x → w.heap.size ≤ x) ∧ Only S w w' ∧ (∀ x, S' x → S x ∨ w.heap.size ≤ x) ∧
    Calm d' ∧ d'.room = d.room ∧ d'.data = upd d.data f (framesB recs) ∧ d'.used ≤ d.used

theorem journal_new (w : World) (db f : Nat) : JIn (w.alloc (.cells #[.pointer (some ⟨db, 0, none⟩), .int .i64 f, .slice none 0 0, .slice none 0 0, .bool false] 57)) w.heap.size db f [] (fun x => x = w.heap.size) :=
  ⟨⟨.slice none 0 0, .slice none 0 0, [], [], heap_alloc_new w _, World.ownsRow_nil _ _ _ _, (fun i hi => by cases hi), World.ownsRow_nil _ _ _ _, (fun i hi => by cases hi), (fun k hk => by cases hk), (fun k hk => by cases hk)⟩, rfl, fun k hk => by rw [hk]; simp⟩

set_option maxRecDepth 100000 in
set_option maxHeartbeats 2000000 in
theorem open_any {w : World} {db f : Nat} {d : DS} {S : Nat → Prop} (D : DiskIn w db d S) (hlt : FootLt w S) (hf : f < 8) (hc : Calm d) (recs : List (List UInt8)) (rest : List UInt8) (hdata : d.data f = framesB recs ++ rest) (hs : Small recs) (ht : Torn rest) (hn : recs.length ≤ 1000) :
    Calls Try.prog 8 #[.pointer (some ⟨db, 0, none⟩), .int .i64 f] w (OpenEnd w db f d recs S) := by
  have hlen : d.len f ≤ 16777216 := D.1.len hf
  have hbl : (framesB recs ++ rest).length ≤ 16777216 := by rw [← hdata]; exact hlen
  have HRd : Hid (Calls Try.prog 17 #[.pointer (some ⟨db, 0, none⟩), .int .i64 f] w (ReadEnd w (framesB recs ++ rest) 0)) := by
    obtain ⟨hok, V, hA, hS⟩ := D
    have := read_any hA hok f
    rw [hc.code hf, if_pos rfl, Int.toNat_natCast, hdata] at this
    exact this
  have HD := hide (And.intro D hlt)
  have HC := hide hc
  have HF := hide hf
  have HX := hide (And.intro hdata (And.intro hs (And.intro ht (And.intro hn hbl))))
  clear D hlt hc hdata hs ht hn hbl hlen hf
  obtain ⟨fb, hfb⟩ : ∃ fb, framesB recs ++ rest = fb := ⟨_, rfl⟩
  have HFB := hide hfb
  rw [hfb] at HRd
  clear hfb
  go_enter Try.func8, Try.ntmps8
  go_wp2_with fail
  refine HRd.out.mono ?_
  rintro e w1 ⟨v1, rfl, hown, hnew, hO⟩
  obtain ⟨A, n, c, rfl⟩ := own_form' hown
  obtain rfl := (Cd.own_n hown).symm
  have R1 := hide (Rds.own hown)
  have O1 := hide hO
  have N1 := hide hnew
  clear hown hnew hO
  have J2 := hide (journal_new w1 db f)
  have O2 := hide ((Only.refl (fun _ => False) w1).alloc (.cells #[.pointer (some ⟨db, 0, none⟩), .int .i64 f, .slice none 0 0, .slice none 0 0, .bool false] 57))
  have HSc := hide (scan_any J2.out (fun x hx => hx) (.slice A fb.length c) recs rest HX.out.2.1 HX.out.2.2.1 HX.out.2.2.2.1 (by rw [HFB.out]; exact R1.out.only O2.out fun _ _ => id) (fun k hk => by have := Cd.rds_lt R1.out hk; omega) (by have := HX.out.2.2.2.2; omega))
  go_wp2_with fail
  refine HSc.out.mono ?_
  rintro e w3 ⟨rfl, hO3, R3, hJ3, hR3⟩
  have O3 : Hid (Only (fun _ => False) w w3) := (O1.out.trans' O2.out).trans hO3 fun x hx e => by have := O1.out.size; omega
  have J3 := hide hJ3
  have L3 : Hid (∀ x, R3 x → w.heap.size ≤ x) := fun x hx => by have h1 := O1.out.size; have h2 := O2.out.size; rcases hR3 x hx with h | h <;> omega
  have D3 := hide (disk_keep HD.out.1 O3.out fun _ _ => id)
  have F3 : Hid (FootLt w3 S) := fun k hk => Nat.lt_of_lt_of_le (HD.out.2 k hk) O3.out.size
  clear hO3 hJ3 hR3
  by_cases hr : rest = []
  · have hI : ¬ ((framesB recs).length : Int) < (fb.length : Int) := by rw [← HFB.out, hr, List.append_nil]; omega
    have HR := hide hr
    clear hr
    go_wp2
    go_ret2
    have O4 := (Only.refl (fun _ => False) w3).alloc (.cells #[.int .i64 (framesB recs).length, .bool false] 59)
    refine ⟨_, R3, S, d, rfl, ⟨J3.out.only O4 fun _ _ => id, disk_keep D3.out O4 fun _ _ => id, fun k hk => Nat.lt_of_lt_of_le (F3.out k hk) O4.size, fun k hk hS => by have := L3.out k hk; have := HD.out.2 k hS; omega⟩, L3.out, (O3.out.trans' O4).mono fun _ _ h => h.elim, fun x hx => .inl hx, HC.out, rfl, ?_, Nat.le_refl _⟩
    funext i
    unfold upd
    split
    · rename_i e; rw [e, HX.out.1, HR.out, List.append_nil]
    · rfl
  · have hpos : 0 < rest.length := List.length_pos_iff.2 hr
    have hI : ((framesB recs).length : Int) < (fb.length : Int) := by rw [← HFB.out, List.length_append]; omega
    have HT := hide (fun (W : World) (ho : Only (fun _ => False) w3 W) => truncate_any (w := W) (disk_keep D3.out ho fun _ _ => id) (fun k hk => Nat.lt_of_lt_of_le (F3.out k hk) ho.size) f ((framesB recs).length : Nat))
    have htr := truncate_calm HC.out HF.out (n := (framesB recs).length) (by unfold DS.len; rw [HX.out.1, List.length_append]; omega)
    have HTR := hide htr
    have O4 := hide ((Only.refl (fun _ => False) w3).alloc (.cells #[.int .i64 (framesB recs).length, .bool false] 59))
    clear hr hpos htr
    go_wp2_with fail
    refine (HT.out _ O4.out).mono ?_
    rintro e w5 ⟨he, S5, hD5, hSt5⟩
    rw [HTR.out] at he hD5
    subst he
    obtain ⟨S6, hD6, hF6, hS6⟩ := hD5.tight
    have D6 := hide (And.intro hD6 (And.intro hF6 (And.intro hS6 hSt5)))
    clear hD5 hSt5 hD6 hF6 hS6
    go_wp2
    go_ret2
    obtain ⟨hD6, hF6, hS6, hSt⟩ := D6.out
    have hfoot : ∀ x, S6 x → S x ∨ (w3.alloc (.cells #[.int .i64 (framesB recs).length, .bool false] 59)).heap.size ≤ x := fun x hx => hSt.foot x (hS6 x hx)
    have hz4 := O4.out.size
    have hz3 := O3.out.size
    have hJ4 := J3.out.only O4.out fun _ _ => id
    refine ⟨_, R3, S6, doTruncate (framesB recs).length d f, rfl, ⟨hJ4.only hSt.only fun k hk hS => by have := L3.out k hk; have := HD.out.2 k hS; omega, hD6, hF6, fun k hk hS => ?_⟩, L3.out, ((O3.out.trans' O4.out).mono fun _ _ h => h.elim).trans' hSt.only, fun x hx => (hfoot x hx).imp id fun h => by omega, ⟨HC.out.off, HC.out.plan⟩, rfl, ?_, used_truncate d HF.out⟩
    · rcases hfoot k hS with h | h
      · have := L3.out k hk; have := HD.out.2 k h; omega
      · have := hJ4.low k hk; omega
    · show upd d.data f ((d.data f).take _) = _
      rw [HX.out.1, List.take_left]

end Go.Proofs.Ytcedenhfchcgiaa.Jn
