/- journal.Sync, done, Rewrite, walked, where the disk is on, has no plan and room. -/
import Derived.Test.YtcedenhfchcgiaaJn09
set_option linter.unusedVariables false
set_option linter.unusedSimpArgs false
namespace Go.Proofs.Ytcedenhfchcgiaa.Jn
open Go.RowKit Go.Shelf

/-- How a change of a journal ends. -/
def JEnd (w : World) (b db f : Nat) (d : DS) (recs' : List (List UInt8)) (l : List UInt8) (n : Nat) (R S : Nat → Prop) (e : Ending) (w' : World) : Prop :=
  e = .returned (.int .i64 0) ∧ ∃ (R' S' : Nat → Prop) (d' : DS), JD w' b db f recs' d' R' S' ∧ Calm d' ∧ d'.room = d.room ∧ d'.data = upd d.data f l ∧ d'.used ≤ d.used + n ∧
    Only (fun k => R k ∨ S k) w w' ∧ (∀ k, R' k → R k ∨ w.heap.size ≤ k) ∧ (∀ k, S' k → S k ∨ w.heap.size ≤ k)

theorem jAppend2 {w : World} {b db f : Nat} {recs : List (List UInt8)} {d : DS} {R S : Nat → Prop} (J : JD w b db f recs d R S) (hc : Calm d) (hf : f < 8) (x : Value) (l : List UInt8) (hx : Rds w x (bytesV l)) (hxS : ∀ k, rdBlock x = some k → ¬ S k ∧ ¬ R k) (hl : l.length ≤ 1048576)
    (hu : d.used + (frameB l).length ≤ d.room) (hn : recs.length ≤ 1000) (hfr : (framesB recs).length ≤ 1000000000) (hdata : d.data f = framesB recs) :
    Calls Try.prog 9 #[.pointer (some ⟨b, 0, none⟩), x] w (JEnd w b db f d (recs ++ [l]) (framesB (recs ++ [l])) (frameB l).length R S) := by
  have ha := append_calm hc hf hu
  refine (jAppend_any J.jin J.disk J.low J.dis x l hx hxS hl (by rw [ha]) hn hfr).mono ?_
  rintro e w' ⟨rfl, R', S', h1, h2, h3, h4, h5, h6, h7⟩
  rw [ha] at h2
  refine ⟨rfl, R', S', _, ⟨h1, h2, h3, h4⟩, ⟨hc.off, hc.plan⟩, rfl, ?_, Nat.le_of_eq (used_append d hf _), h5, h6, h7⟩
  show upd d.data f (d.data f ++ frameB l) = _
  rw [hdata, frames_snoc]

set_option maxRecDepth 100000 in
theorem done_ok {w : World} {b db f : Nat} {recs : List (List UInt8)} {R : Nat → Prop} (J : JIn w b db f recs R) :
    Calls Try.prog 22 #[.pointer (some ⟨b, 0, none⟩), .int .i64 0] w fun e w' => e = .returned (.int .i64 0) ∧ JIn w' b db f recs R ∧ Only (fun k => k = b) w w' := by
  obtain ⟨RS, ES, Vs, Es, h1, h2, h3, h4, h5, h6, h7⟩ := J.at_
  have c4 := cell_of_heap h1 4
  have z4 := frozen_of_heap h1 4
  simp at c4
  have one := only_one w b 4 (.bool false)
  have hfin : Hid (JIn (w.setCell ⟨b, 4, none⟩ (.bool false)) b db f recs R) := ⟨⟨RS, ES, Vs, Es, by rw [heap_setCell_at h1]; simp, one.owns h2 fun k hk e => by subst e; exact own_ne h1 h2 tags_sj hk,
    fun i hi => (h3 i hi).imp fun V hV => ⟨hV.1, hV.2.1.only one fun k hk e => by subst e; exact RowB.ne h1 hV.2.1 tags_uj hk, hV.2.2⟩, one.owns h4 fun k hk e => by subst e; exact own_ne h1 h4 tags_ij hk, h5, h6, h7⟩, J.foot, fun k hk => Nat.lt_of_lt_of_le (J.low k hk) one.size⟩
  have HO := hide one
  clear J h1 h2 h3 h4 h5 h6 h7 one
  go_enter Try.func22, Try.ntmps22
  go_wp2
  go_ret
  exact ⟨rfl, hfin.out, HO.out⟩

theorem upd_self {α : Type} (g : Nat → α) (f : Nat) : upd g f (g f) = g := by
  funext i
  unfold upd
  split
  · rename_i e; rw [e]
  · rfl
theorem sync_fin {w w2 w3 : World} {b db f : Nat} {recs : List (List UInt8)} {d : DS} {R S S1 : Nat → Prop} (J : JD w b db f recs d R S) (hc : Calm d) (D2 : DiskIn w2 db (doSync d f) S1) (ST : Stp S w.drew w2 S1) (J3 : JIn w3 b db f recs R) (O3 : Only (fun k => k = b) w2 w3) :
    JEnd w b db f d recs (d.data f) 0 R S (.returned (.int .i64 0)) w3 := by
  obtain ⟨S2, hD, hF, hS⟩ := D2.tight
  have hfoot : ∀ x, S2 x → S x ∨ w.heap.size ≤ x := fun x hx => ST.foot x (hS x hx)
  have ho2 : Only S w w2 := ((Only.refl (fun _ => False) w).drew.mono fun _ _ h => h.elim).trans' ST.only
  have hdis : ∀ k, R k → ¬ S2 k := fun k hk h => (hfoot k h).elim (J.dis k hk) fun h => by have := J.jin.low k hk; omega
  refine ⟨rfl, R, S2, _, ⟨J3, disk_keep hD O3 fun k hk e => by subst e; exact hdis _ J.jin.foot hk, fun k hk => Nat.lt_of_lt_of_le (hF k hk) O3.size, hdis⟩, ⟨hc.off, hc.plan⟩, rfl, (upd_self d.data f).symm, Nat.le_refl _, ?_, fun k hk => .inl hk, hfoot⟩
  exact (ho2.mono fun k _ h => .inr h).trans' (O3.mono fun k _ e => .inl (e ▸ J.jin.foot))

/-- append of one number onto one's own numbers, as an arm of a walk. -/
theorem wp_int {w : World} {ops : Array Oper} {rest : List Oper} {o : Oper} {a : Act} {Q : Exit → Act → World → Prop} (hgd : o.guard = none) (s x : Operand)
    (ho : o.op = .call { callee := .builtin .append, args := #[s, x], argTypes := #[24, 24] })
    (v : Value) (n : Nat) (Es : List Value) (hsv : a.eval s = v) (hown : w.ownsRow 0 3 1 v n Es) (xv : Value) (hxv : a.eval x = xv) (V : Value) (hs : Src Try.prog 1 24 xv 1 [V] w) (hn : n ≤ 1000000)
    (h : ∀ v' w', w'.ownsRow 0 3 1 v' (n + 1) (Es ++ [V]) → w.grownBy w' v.ownBlock → (v'.ownBlock = v.ownBlock ∨ ∃ k, v'.ownBlock = some k ∧ w.heap.size ≤ k) → wpList Try.prog ops Q rest (a.put o.dst v') w') : wpList Try.prog ops Q (o :: rest) a w := by
  obtain ⟨i0, hi, hz0, hz1, hz2⟩ := info_parts info_int
  exact wpList_append_any hgd s x 24 24 ho 0 3 i0 (.int .i64 0) Try.underlying24 hi hz0 hz1 rfl v n Es hsv hown xv hxv 1 [V] hs (by simp only [maxLen]; omega) (by rw [hz2]; omega) (Nat.zero_le _) h

/-- The places behind the first k records, in a slice of one's own that was made since w. -/
structure Ends (w wr : World) (v : Value) (recs : List (List UInt8)) (k : Nat) : Prop where
  own : ∃ Es : List Value, wr.ownsRow 0 3 1 v k Es ∧ ∀ i, i < k → Es[i]? = some (.int .i64 (framesB (recs.take (i + 1))).length)
  new : ∀ x, v.ownBlock = some x → w.heap.size ≤ x
theorem Ends.grow {w wr w2 : World} {v : Value} {recs : List (List UInt8)} {k : Nat} (h : Ends w wr v recs k) (ho : Only (fun _ => False) wr w2) : Ends w w2 v recs k := by
  obtain ⟨Es, h1, h2⟩ := h.own
  exact ⟨⟨Es, ho.owns h1 fun _ _ => id, h2⟩, h.new⟩
theorem Ends.nil (w : World) (recs : List (List UInt8)) : Ends w w (.slice none 0 0) recs 0 := ⟨⟨[], World.ownsRow_nil _ _ _ _, fun i hi => by omega⟩, fun x hx => by cases hx⟩
theorem Ends.push {w wr w2 : World} {v v' : Value} {recs : List (List UInt8)} {k : Nat} {Es : List Value} {z : Int} (h : Ends w wr v recs k) (hE : wr.ownsRow 0 3 1 v k Es) (hall : ∀ i, i < k → Es[i]? = some (.int .i64 (framesB (recs.take (i + 1))).length))
    (hz : z = ((framesB (recs.take (k + 1))).length : Nat)) (hw : w.heap.size ≤ wr.heap.size)
    (g1 : w2.ownsRow 0 3 1 v' (k + 1) (Es ++ [.int .i64 z])) (g3 : v'.ownBlock = v.ownBlock ∨ ∃ x, v'.ownBlock = some x ∧ wr.heap.size ≤ x) : Ends w w2 v' recs (k + 1) := by
  have hl : Es.length = k := by have := hE.1; omega
  refine ⟨⟨_, g1, fun i hi => ?_⟩, fun x hx => ?_⟩
  · by_cases e : i < k
    · rw [List.getElem?_append_left (by omega), hall i e]
    · obtain rfl : i = k := by omega
      rw [List.getElem?_append_right (by omega), hl, hz]
      simp
  · rcases g3 with e | ⟨y, e, hy⟩
    · exact h.new x (by rw [← e]; exact hx)
    · rw [hx] at e; injection e with e; omega

set_option maxRecDepth 100000 in
set_option maxHeartbeats 1000000 in
theorem jSync_any {w : World} {b db f : Nat} {recs : List (List UInt8)} {d : DS} {R S : Nat → Prop} (J : JD w b db f recs d R S) (hc : Calm d) (hf : f < 8) :
    Calls Try.prog 26 #[.pointer (some ⟨b, 0, none⟩)] w (JEnd w b db f d recs (d.data f) 0 R S) := by
  have HJ := hide J
  have HC := hide (And.intro hc hf)
  obtain ⟨RS, ES, Vs, Es, h1, -⟩ := J.jin.at_
  have c0 := cell_of_heap h1 0
  have c1 := cell_of_heap h1 1
  have c4 := cell_of_heap h1 4
  simp at c0 c1 c4
  have HSy := hide (sync_any (w := w.drew) (disk_keep J.disk ((Only.refl (fun _ => False) w).drew) fun _ _ => id) f)
  clear h1 J hc hf
  go_enter Try.func26, Try.ntmps26
  go_wp2
  go_region_with (first
    | (go_at_call 38; refine HSy.out.mono ?_; rintro e w2 ⟨he, S1, hD2, hSt⟩; rw [sync_calm HC.out.1 HC.out.2] at he hD2; subst he; have D2 := hide hD2; have ST := hide hSt; have J2 := hide (HJ.out.jin.only (((Only.refl (fun _ => False) w).drew.mono fun _ _ h => h.elim).trans' hSt.only) HJ.out.dis); clear hD2 hSt)
    | (go_at_call 22; refine (done_ok J2.out).mono ?_; rintro e w3 ⟨rfl, hJ3, hO3⟩; have J3 := hide hJ3; have O3 := hide hO3; clear hJ3 hO3))
  all_goals
    try simp [Act.put]
    go_wp2
    go_ret
    exact sync_fin HJ.out HC.out.1 D2.out ST.out J3.out O3.out

theorem frames_take_le (recs : List (List UInt8)) (k : Nat) : (framesB (recs.take k)).length ≤ (framesB recs).length := by
  conv => rhs; rw [← List.take_append_drop k recs, framesB_append, List.length_append]
  omega

theorem rewrite_fin {w wr w2 w3 : World} {b db f : Nat} {recs0 recs : List (List UInt8)} {d : DS} {R S S1 : Nat → Prop} {v ev : Value} {fb : List UInt8} {n : Nat} (J : JD w b db f recs0 d R S) (hc : Calm d) (hf : f < 8) (hO1 : Only (fun _ => False) w wr) (E : Ends w wr ev recs recs.length)
    (hD2 : DiskIn w2 db (doReplace fb d f) S1) (hSt : Stp S wr.drew w2 S1) (F : FreshRecs w2 w3 v recs) (hfb : framesB recs = fb) {V0 V1 : Value} (q1 : w3.heap[b]? = some (.cells #[.pointer (some ⟨db, 0, none⟩), .int .i64 f, V0, V1, .bool false] 57 (0, 0))) :
    JEnd w b db f d recs (framesB recs) fb.length R S (.returned (.int .i64 0)) ((w3.setCell ⟨b, 2, none⟩ v).setCell ⟨b, 3, none⟩ ev) := by
  obtain ⟨S2, hD, hF, hS⟩ := hD2.tight
  obtain ⟨Es, hE1, hE2⟩ := E.own
  obtain ⟨Vs, hV1, hV2⟩ := F.own
  have hO2 : Only S wr w2 := ((Only.refl (fun _ => False) wr).drew.mono fun _ _ h => h.elim).trans' hSt.only
  have hfoot : ∀ x, S2 x → S x ∨ wr.heap.size ≤ x := fun x hx => hSt.foot x (hS x hx)
  have hbw := J.jin.low b J.jin.foot
  have hz1 := hO1.size
  have hz2 := hO2.size
  have hz3 := F.only.size
  have o1 := only_one w3 b 2 v
  have o2 := only_one (w3.setCell ⟨b, 2, none⟩ v) b 3 ev
  have oo := o1.trans' o2
  have h5 := heap_setCell_at (heap_setCell_at q1 2 v) 3 ev
  obtain ⟨w5, hw5⟩ : ∃ w5, (w3.setCell ⟨b, 2, none⟩ v).setCell ⟨b, 3, none⟩ ev = w5 := ⟨_, rfl⟩
  rw [hw5] at oo h5 ⊢
  have hz5 := oo.size
  have hEw2 : w2.ownsRow 0 3 1 ev recs.length Es := hO2.owns hE1 fun x hx h => by have := E.new x hx; have := J.low x h; omega
  have hE5 : w5.ownsRow 0 3 1 ev recs.length Es := oo.owns (F.only.owns hEw2 fun _ _ => id) fun x hx e => by subst e; exact own_ne q1 (F.only.owns hEw2 fun _ _ => id) tags_ij hx
  have hV5 : w5.ownsRow 0 23 1 v recs.length Vs := oo.owns hV1 fun x hx e => by subst e; exact own_ne q1 hV1 tags_sj hx
  have hEr : ∀ x, ev.ownBlock = some x → w.heap.size ≤ x ∧ x < wr.heap.size := fun x hx => ⟨E.new x hx, by obtain ⟨cc, hcc⟩ := owns_block hE1 hx; exact heap_lt hcc⟩
  refine ⟨rfl, fun x => x = b ∨ (w.heap.size ≤ x ∧ x < wr.heap.size) ∨ (w2.heap.size ≤ x ∧ x < w5.heap.size), S2, doReplace fb d f, ⟨⟨⟨v, ev, Vs, Es, ?_, hV5, fun i hi => ?_, hE5, hE2, fun x hx => ?_, fun x hx => .inr (.inl (hEr x hx))⟩, .inl rfl, ?_⟩, ?_, ?_, ?_⟩, ⟨hc.off, hc.plan⟩, rfl, by rw [hfb]; rfl, used_replace d hf fb, ?_, ?_, fun k hk => (hfoot k hk).imp id fun h => by omega⟩
  · rw [h5]; simp
  · obtain ⟨V, e1, e2, e3⟩ := hV2 i hi
    refine ⟨V, e1, RowB.own (oo.owns e2 fun x hx e => by subst e; exact own_ne q1 e2 tags_uj hx), fun x hx => .inr (.inr ⟨e3 x hx, ?_⟩)⟩
    obtain ⟨cc, hcc⟩ := owns_block e2 hx
    have := heap_lt hcc
    omega
  · obtain ⟨cc, hcc⟩ := owns_block hV5 hx
    exact .inr (.inr ⟨F.new x hx, heap_lt hcc⟩)
  · rintro x (rfl | hx | hx)
    · omega
    · omega
    · exact hx.2
  · exact disk_keep (disk_keep hD F.only fun _ _ => id) oo fun k hk e => by
      subst e
      rcases hfoot _ hk with h | h
      · exact J.dis _ J.jin.foot h
      · omega
  · exact fun k hk => by have := hF k hk; omega
  · rintro x (rfl | hx | hx) h
    · rcases hfoot _ h with h | h
      · exact J.dis _ J.jin.foot h
      · omega
    · rcases hfoot _ h with h | h
      · have := J.low x h; omega
      · omega
    · have := hF x h; omega
  · exact (((hO1.mono fun _ _ h => h.elim).trans' (hO2.mono fun _ _ h => .inr h)).trans' (F.only.mono fun _ _ h => h.elim)).trans' (oo.mono fun x _ e => .inl (e ▸ J.jin.foot))
  · rintro x (rfl | hx | hx)
    · exact .inl J.jin.foot
    · exact .inr hx.1
    · exact .inr (by omega)

set_option maxRecDepth 100000 in
set_option maxHeartbeats 4000000 in
theorem jRewrite_any {w : World} {b db f : Nat} {recs0 : List (List UInt8)} {d : DS} {R S T : Nat → Prop} (J : JD w b db f recs0 d R S) (hc : Calm d) (hf : f < 8) (A : Option Addr) (n c : Nat) (recs : List (List UInt8)) (hx : RdRecs w A n recs T)
    (hT : ∀ k, T k → ¬ S k ∧ ¬ R k) (hs : Small recs) (hn : recs.length ≤ 1000) (hfr : (framesB recs).length ≤ 4000) (hu : d.used + (framesB recs).length ≤ d.room) :
    Calls Try.prog 16 #[.pointer (some ⟨b, 0, none⟩), .slice A n c] w (JEnd w b db f d recs (framesB recs) (framesB recs).length R S) := by
  obtain rfl := hx.len
  have HJ := hide J
  have HX := hide (And.intro hx hT)
  have HP := hide (And.intro hc (And.intro hf (And.intro hs (And.intro hn (And.intro hfr hu)))))
  obtain ⟨RS, ES, Vs, Es, h1, -⟩ := J.jin.at_
  have c4 := cell_of_heap h1 4
  simp at c4
  clear h1 J hc hf hx hT hs hfr hu
  go_enter Try.func16, Try.ntmps16
  go_wp2
  go_loop [18] (fun i => ∃ k : Nat, k ≤ recs.length ∧ i = .int .i64 k) (fun i => recs.length - (intOf i).toNat)
  case atStart => exact ⟨0, by omega, rfl⟩
  case round =>
    obtain ⟨k, hk, rfl⟩ := hrel
    by_cases hlt : k < recs.length
    · obtain ⟨ab, ao, V, rfl, hT, hcell, hV, -⟩ := HX.out.1.at_ k hlt
      obtain ⟨VA, vn, vc, rfl⟩ := Cd.rds_form hV
      have hvn : vn = (recs.getD k []).length := by obtain ⟨A, c, e, _⟩ := hV; injection e with _ e _; rw [e, bytesV_length]
      have hvI : ¬ (1048576 : Int) < vn := by have := HP.out.2.2.1 k hlt; omega
      clear hT hV hvn
      go_wp2
      go_round
      case rel => exact ⟨k + 1, by omega, by go_num⟩
      case measure => simp [intOf]; omega
    · obtain rfl : k = recs.length := by omega
      go_wp2
      go_loopw [7, 8, 28] (fun bv ev i wr => ∃ k : Nat, k ≤ recs.length ∧ i = .int .i64 k ∧ Hid (Cd.Fresh w wr bv (framesB (recs.take k))) ∧ Hid (Ends w wr ev recs k)) (fun _ _ i _ => recs.length - (intOf i).toNat)
      case atStart => exact ⟨0, by omega, rfl, hide (Cd.Fresh.nil w), hide (Ends.nil w recs)⟩
      case round =>
        obtain ⟨k, hk, rfl, HF, HE⟩ := hrel
        obtain ⟨Es1, hE1, hE2⟩ := HE.out.own
        obtain ⟨EA, em, ec, rfl⟩ := own_form' hE1
        obtain rfl := (Cd.own_n hE1).symm
        obtain ⟨BA, bm, bc, rfl⟩ := own_form' HF.out.own
        have HE1 := hide hE1
        have HE2 := hide hE2
        clear hE1 hE2
        by_cases hlt : k < recs.length
        · obtain ⟨ab, ao, V, rfl, hT, hcell, hV, -⟩ := (HX.out.1.grow HF.out.only).at_ k hlt
          have hrl := HP.out.2.2.1 k hlt
          have HTk : Hid (framesB (recs.take k) ++ Cd.leb (Cd.strOf (recs.getD k [])).size ++ (Cd.strOf (recs.getD k [])).data.toList = framesB (recs.take (k + 1))) := by
            show _ = _
            rw [take_succ_recs hlt, framesB_append, framesB_one, Cd.strOf_size, strOf_data']
            unfold frameB
            rw [List.append_assoc]
          generalize recs.getD k [] = r at hV hrl HTk
          obtain ⟨VA, vn, vc, rfl⟩ := Cd.rds_form hV
          have hcv := Cd.run_str hV
          have HA := hide (Cd.appendText_any (w := wr) (.slice BA bm bc) (framesB (recs.take k)) HF.out.rds (by have := frames_take_le recs k; have := HP.out.2.2.2.2.1; omega) (Cd.strOf r) (by rw [Cd.strOf_size]; omega))
          rw [HTk.out] at HA
          have HLT := hide hlt
          obtain ⟨lz, hlz⟩ : ∃ z, framesB (recs.take (k + 1)) = z := ⟨_, rfl⟩
          have HLZ := hide hlz
          rw [hlz] at HA
          clear HTk hrl
          clear hT hV hlz
          go_wp2_with fail
          refine HA.out.mono ?_
          rintro e w2 ⟨v2, rfl, F2⟩
          obtain ⟨B2, b2, bc2, rfl⟩ := own_form' F2.own
          obtain rfl := (Cd.own_n F2.own).symm
          have HF2 : Hid (Cd.Fresh w w2 (.slice B2 lz.length bc2) lz) := ⟨F2.own, HF.out.only.trans' F2.only, fun x hx => Nat.le_trans HF.out.only.size (F2.new x hx)⟩
          have HE3 := hide (HE.out.grow F2.only)
          have HE4 := hide (F2.only.owns HE1.out fun _ _ => id)
          have P2 := hide ((Only.refl (fun _ => False) w2).alloc (.cells #[.int .i64 lz.length] 3))
          clear F2
          go_wp2_with (at_builtin; refine wp_int rfl _ _ rfl (.slice EA k ec) k Es1 rfl (P2.out.owns HE4.out fun _ _ => id) _ rfl (.int .i64 lz.length) (src_int w2 _ (by first | rfl | simp) _) (by omega) ?_; intro v5 w5 g1 g2 g3; have HE5 := hide (Ends.push (HE3.out.grow P2.out) (P2.out.owns HE4.out fun _ _ => id) HE2.out (by rw [HLZ.out]) (Nat.le_trans HF2.out.only.size P2.out.size) g1 g3); have HO5 : Hid (Only (fun x => (Value.slice EA k ec).ownBlock = some x) w2 w5) := (P2.out.mono fun _ _ h => h.elim).grown g2 fun x hx => .inl hx; clear g1 g2 g3)
          go_roundw
          case rel =>
            refine ⟨k + 1, HLT.out, by go_num, hide ?_, HE5⟩
            rw [HLZ.out]
            exact ⟨HO5.out.owns HF2.out.own fun x hx e => own_own HE4.out HF2.out.own tags_iu x hx e, (HF2.out.only).trans HO5.out fun x hx e => by have := HE.out.new x e; omega, HF2.out.new⟩
          case measure => simp [intOf]; omega
        · obtain rfl : k = recs.length := by omega
          rw [List.take_length] at HF
          obtain ⟨fb, hfb⟩ : ∃ z, framesB recs = z := ⟨_, rfl⟩
          have HFB := hide hfb
          rw [hfb] at HF
          clear hfb
          have O1 := hide HF.out.only
          have J1 := hide (HJ.out.jin.only O1.out fun _ _ => id)
          have D1 : Hid (DiskIn wr db d S ∧ FootLt wr S) := ⟨disk_keep HJ.out.disk O1.out fun _ _ => id, fun k hk => Nat.lt_of_lt_of_le (HJ.out.low k hk) O1.out.size⟩
          have HA := hide (fun (W : World) (ho : Only (fun _ => False) wr W) => replace_any (w := W) (disk_keep D1.out.1 ho fun _ _ => id) (fun k hk => Nat.lt_of_lt_of_le (D1.out.2 k hk) ho.size) f (.slice BA bm bc) fb (HF.out.rds.only ho fun _ _ => id) (fun k hk hS => by have h1 := HF.out.new k (rdBlock_own hk); have h2 := HJ.out.low k hS; omega) (by have := HP.out.2.2.2.2.1; rw [HFB.out] at this; unfold lim46; omega))
          have hrc := hide (replace_calm HP.out.1 HP.out.2.1 (l := fb) (by have := HP.out.2.2.2.2.2; rw [HFB.out] at this; exact this))
          obtain ⟨RS1, ES1, Vs1, Es2, h1, -⟩ := J1.out.at_
          have c0 := cell_of_heap h1 0
          have c1 := cell_of_heap h1 1
          simp at c0 c1
          clear h1 c4
          go_wp2
          go_region_held3 (fun W => W.cell? ⟨b, 0, none⟩ = some (.pointer (some ⟨db, 0, none⟩)) ∧ W.cell? ⟨b, 1, none⟩ = some (.int .i64 f)) (first | assumption | exact K0 | exact K1 | exact ⟨K0, K1⟩ | go_keep) ((go_at_call 32; go_loud (refine (HA.out wr.drew ((Only.refl _ _).drew)).mono ?_; rintro e w2 ⟨he, S1, hD2, hStp⟩; rw [hrc.out] at he hD2; subst he; have D2 := hide hD2; have ST := hide hStp; have K0 : w2.cell? ⟨b, 0, none⟩ = some (.pointer (some ⟨db, 0, none⟩)) := hStp.only.cell c0 (HJ.out.dis b J1.out.foot); have K1 : w2.cell? ⟨b, 1, none⟩ = some (.int .i64 f) := hStp.only.cell c1 (HJ.out.dis b J1.out.foot); clear hD2 hStp)))
          · try simp [Act.put]
            clear K0 K1 c0 c1
            have O2 : Hid (Only S wr w2) := ((Only.refl _ _).drew).trans' ST.out.only
            have HC := hide (copied_any (w := w2) A recs.length c recs ((HX.out.1.grow O1.out).only O2.out fun k hk => (HX.out.2 k hk).1) hn (fun i hi => by have := HP.out.2.2.1 i hi; unfold lim47; omega))
            have J2 := hide (J1.out.only O2.out (fun k hk hS => HJ.out.dis k hk hS))
            go_wp2_with fail
            refine HC.out.mono ?_
            rintro e w3 ⟨v3, rfl, F3⟩
            obtain ⟨Vs3, hV3, _⟩ := F3.own
            obtain ⟨A3, n3, c3, rfl⟩ := own_form' hV3
            have HF3 := hide F3
            obtain ⟨RS3, ES3, Vs4, Es4, q1, -⟩ := (J2.out.only F3.only fun _ _ => id).at_
            have c2 := cell_of_heap q1 2
            have c3' := cell_of_heap q1 3
            have z2 := frozen_of_heap q1 2
            have z3 := frozen_of_heap q1 3
            simp at c2 c3'
            have Q1 := hide q1
            clear F3 hV3 q1
            go_wp2
            go_ret
            have hfin := rewrite_fin (n := 0) HJ.out HP.out.1 HP.out.2.1 O1.out HE.out D2.out ST.out HF3.out HFB.out Q1.out
            rw [← HFB.out] at hfin
            exact hfin

end Go.Proofs.Ytcedenhfchcgiaa.Jn
