/- DiskFails, walked. -/
import Derived.Test.YtldhpbmcpmebaaaFails22
set_option linter.unusedVariables false
set_option linter.unusedSimpArgs false
namespace Go.Proofs.Ytldhpbmcpmebaaa
open Go.RowKit

theorem CopyIn.setF {w wr w' : World} {bd by_ n : Nat} {d dy : DS} {Sd Sy T : Nat → Prop} {F v : Value} {FL : List (List UInt8)} {cs : List Value} (h : CopyIn w wr bd d Sd by_ dy Sy F FL T v n cs) (ho : Only (fun _ => False) wr w') {F' : Value} {FL' : List (List UInt8)} {T' : Nat → Prop}
    (hf : RdFS w' F' FL' T') (hT : ∀ x, T' x → wr.heap.size ≤ x ∧ x < w'.heap.size) : CopyIn w w' bd d Sd by_ dy Sy F' FL' T' v n cs := by
  have h' := h.grow ho
  exact ⟨h'.hd, h'.hy, hf, h'.own, h'.dy_, fun x hx hs => by have := (hT x hx).1; have := h.hd.lt x hs; omega, fun x hx hs => by have := (hT x hx).1; have := h.hy.lt x hs; omega, h'.vd, h'.vy,
    fun x hx hs => by have := (hT x hs).1; have := h.vlt hx; omega, fun x hx => (hT x hx).2, h'.newd, h'.newy, h'.newv, h'.only⟩
theorem rdfs_nil (w : World) : RdFS w (.slice none 0 0) [] (fun _ => False) := ⟨[], rds_nil w, rfl, (fun i hi => by cases hi), (fun k hk => by cases hk), fun i hi => by cases hi⟩
theorem CopyIn.noF {w wr : World} {bd by_ n : Nat} {d dy : DS} {Sd Sy T : Nat → Prop} {F v : Value} {FL : List (List UInt8)} {cs : List Value} (h : CopyIn w wr bd d Sd by_ dy Sy F FL T v n cs) : CopyIn w wr bd d Sd by_ dy Sy (.slice none 0 0) [] (fun _ => False) v n cs :=
  h.setF (Only.refl _ _) (rdfs_nil wr) fun x hx => hx.elim

/-- What the loop of DiskFails keeps. -/
structure FailIn (w wr : World) (ba : Nat) (da : DS) (Sa : Nat → Prop) (bb : Nat) (db : DS) (Sb : Nat → Prop) (left : Nat) : Prop where
  two : CopyIn w wr ba da Sa bb db Sb (.slice none 0 0) [] (fun _ => False) (.slice none 0 0) 0 []
  off : da.off = false
  plan : da.plan = 0
  done : left = 0 → db.off = true
  on : left ≠ 0 → db = da.with_ left false
  le : left ≤ 40

theorem fail_held {w : World} {b : Nat} {d : DS} {S : Nat → Prop} (h : Held w b d S) (n : Int) (hn : n ≤ 9223372036854775807) :
    Calls Try.prog 38 #[.pointer (some ⟨b, 0, none⟩), .int .i64 n] w fun e w' => e = .returned (.tuple #[]) ∧ ∃ S', Held w' b (d.fail n) S' ∧ Stp S w w' S' := by
  refine (fail_in h.disk n hn).mono ?_
  intro e w' he
  obtain ⟨rfl, S', hd, hl', hs⟩ := do_tight he
  exact ⟨rfl, S', ⟨hd, hl'⟩, hs⟩

set_option maxRecDepth 100000 in
set_option maxHeartbeats 16000000 in
theorem diskFails_any {w : World} (room : Nat) (hr : room ≤ 65535) (A : Option Addr) (n cap : Nat) (cs : List CallD) (hc : RdCalls w A n cs (fun x => x < w.heap.size)) (hn : n ≤ cap) (pl : Nat) (hpl : pl ≤ 255) :
    Calls Try.prog 9 #[.int .u16 room, .slice A n cap, .int .u8 pl] w fun e w' => e = .returned (.bool true) ∧ Only (fun _ => False) w w' := by
  obtain ⟨m, hmm⟩ : ∃ m, m = min n 200 := ⟨_, rfl⟩
  have hc2 := hc.take m hmm
  have hmin : (if (200 : Int) < (n : Int) then (200 : Int) else n) = (m : Int) := by rw [hmm]; split <;> omega
  have hmc : m ≤ cap := by omega
  have hml : m = (cs.take 200).length := hc2.len
  have hm2 : m ≤ 200 := by omega
  generalize cs.take 200 = cs at *
  have HC := hide hc2
  have HM := hide hml
  have hN := hide (fun w => made_held w room hr)
  clear hc hc2 hmm hml
  go_enter Try.func9, Try.ntmps9
  go_wp2_with fail
  refine (hN.out w).mono ?_
  rintro e w1 ⟨ba, Sa, rfl, h1, h2, h3⟩
  have A1 := hide h1
  have O1 := hide h2
  have N1 := hide h3
  clear h1 h2 h3
  go_wp2_with fail
  refine (hN.out w1).mono ?_
  rintro e w2 ⟨bb, Sb, rfl, h1, h2, h3⟩
  have B2 := hide h1
  have O2 := hide h2
  have N2 := hide h3
  clear h1 h2 h3
  go_wp2_with fail
  refine (fail_held B2.out _ (by omega)).mono ?_
  rintro e w3 ⟨rfl, S3, g1, g2⟩
  have e1 : (DS.new (room % 4001)).fail (1 + (pl : Int) % 40) = (DS.new (room % 4001)).with_ (1 + pl % 40) false := by
    rw [show (1 + (pl : Int) % 40) = ((1 + pl % 40 : Nat) : Int) by omega]
    exact fail_new _ _ rfl
  have F0 : Hid (FailIn w w3 ba (DS.new (room % 4001)) Sa bb ((DS.new (room % 4001)).with_ (1 + pl % 40) false) S3 (1 + pl % 40)) := by
    have h0 : CopyIn w w2 ba (DS.new (room % 4001)) Sa bb (DS.new (room % 4001)) Sb (.slice none 0 0) [] (fun _ => False) (.slice none 0 0) 0 [] :=
      ⟨A1.out.only O2.out fun _ _ => id, B2.out, rdfs_nil _, World.ownsRow_nil _ _ _ _, fun x hx hs => by have h1 := A1.out.lt x hx; have h2 := N2.out x hs; omega, fun x hx => hx.elim, fun x hx => hx.elim,
        (fun x hx => by cases hx), (fun x hx => by cases hx), (fun x hx => by cases hx), fun x hx => hx.elim, N1.out, fun x hx => Nat.le_trans O1.out.size (N2.out x hx), (fun x hx => by cases hx), O1.out.trans' O2.out⟩
    rw [e1] at g1
    exact ⟨h0.stepY g1 g2, rfl, rfl, fun h => by omega, fun _ => rfl, by omega⟩
  have hleft : (1 + (pl : Int) % 40) = ((1 + pl % 40 : Nat) : Int) := by omega
  clear g1 g2 e1
  go_wp2_with fail
  clear hmin
  go_loopw [9, 42] (fun l i wr => ∃ (k left : Nat) (da db : DS) (Sa' Sb' : Nat → Prop), k ≤ m ∧ i = .int .i64 k ∧ l = .int .i64 left ∧ FailIn w wr ba da Sa' bb db Sb' left) (fun _ i _ => m - (intOf i).toNat)
  case atStart => exact ⟨0, _, _, _, Sa, S3, by omega, rfl, by rw [hleft], F0⟩
  clear hleft
  case round =>
    obtain ⟨k, left, da, db, Sa', Sb', hk, rfl, rfl, hF⟩ := hrel
    by_cases hlt : k < m
    · have hcw := HC.out.only hF.two.only (fun _ _ => id)
      obtain ⟨cb, co, vB, vK, rfl, hcT, c1, c2, c3, c4, c5, c6, c7⟩ := hcw.at_ k (by rw [← HM.out]; exact hlt)
      obtain ⟨cd, hcd⟩ : ∃ cd, cs.getD k ⟨0, 0, 0, [], []⟩ = cd := ⟨_, rfl⟩
      rw [hcd] at c1 c2 c3 c6 c7
      obtain ⟨BA, Bn, Bc, rfl⟩ := c6.bs.form
      obtain ⟨KA, Kn, Kc, rfl⟩ := c6.keep.form
      have HW := hide ((Only.refl (fun _ => False) wr).alloc (.cells #[.int .i64 cd.kind, .int .i64 cd.file, .int .i64 cd.n, .slice BA Bn Bc, .slice KA Kn Kc] 51))
      have C0 := hide (hF.two.grow HW.out)
      have HV := hide (c6.only HW.out (fun _ _ => id))
      have HX := hide (Box.new wr cd (.slice BA Bn Bc) (.slice KA Kn Kc))
      have HSZ := hide (show (wr.alloc (.cells #[.int .i64 cd.kind, .int .i64 cd.file, .int .i64 cd.n, .slice BA Bn Bc, .slice KA Kn Kc] 51)).heap.size = wr.heap.size + 1 from by simp)
      have HF := hide hF
      have hleft := hF.le
      clear hF hcd hcw hcT c6
      by_cases hk1 : cd.kind < 1
      · go_wp2
        go_roundw
        case rel => exact ⟨k + 1, left, da, db, Sa', Sb', by omega, by go_num, rfl, C0.out, HF.out.off, HF.out.plan, HF.out.done, HF.out.on, HF.out.le⟩
        case measure => simp [intOf]; omega
      by_cases hk4 : 4 < cd.kind
      · go_wp2
        go_roundw
        case rel => exact ⟨k + 1, left, da, db, Sa', Sb', by omega, by go_num, rfl, C0.out, HF.out.off, HF.out.plan, HF.out.done, HF.out.on, HF.out.le⟩
        case measure => simp [intOf]; omega
      have hk7 : Hid (cd.kind ≠ 7) := by show cd.kind ≠ 7; omega
      have HOFF := hide (fun h => play_off (d := db) (c := cd) (by omega) (by omega) h)
      have HSTEP := hide (fun l hl => fails_step (d := da) (c := cd) (by omega) (by omega) HF.out.off HF.out.plan l hl)
      go_wp2_with fail
      refine (files_held C0.out.hd).mono ?_
      rintro e w4 ⟨FA, Fn, Fc, T, rfl, f1, f2, f3, f4⟩
      have C1 := hide (C0.out.setF f3 f1 f2)
      have X1 := hide (HX.out.only f3 id)
      have V1 := hide (HV.out.only f3 (fun _ _ => id))
      have S1 := hide (show wr.heap.size < w4.heap.size from by have := f3.size; rw [HSZ.out] at this; omega)
      clear f1 f2 f3 f4
      obtain ⟨x0, x1, x2, x3, x4⟩ := X1.out
      have HP := hide (play_box C1.out.hd cd c7 _ _ V1.out (T := fun x => x < w.heap.size) (fun x hx hs => by have := C1.out.newd x hs; omega))
      go_wp2_with fail
      refine HP.out.mono ?_
      rintro e w5 ⟨b5, S5, rfl, g1, g2, g3⟩
      obtain rfl := g3 hk7.out
      have C2 := hide (C1.out.stepD g1 g2)
      have X2 := hide (X1.out.only g2.only (fun hs => by have h1 := HF.out.two.hd.lt _ hs; omega))
      have V2 := hide (V1.out.only g2.only (fun x hx hs => by have := C1.out.newd x hs; omega))
      clear g1 g2 g3 x0 x1 x2 x3 x4
      obtain ⟨x0, x1, x2, x3, x4⟩ := X2.out
      have HP2 := hide (play_box C2.out.hy cd c7 _ _ V2.out (T := fun x => x < w.heap.size) (fun x hx hs => by have := C2.out.newy x hs; omega))
      go_wp2_with fail
      refine HP2.out.mono ?_
      rintro e w6 ⟨b6, S6, rfl, g1, g2, g3⟩
      obtain rfl := g3 hk7.out
      have C3 := hide (C2.out.stepY g1 g2)
      have X3 := hide (X2.out.only g2.only (fun hs => by have h1 := HF.out.two.hy.lt _ hs; omega))
      clear g1 g2 g3 x0 x1 x2 x3 x4 HP HP2
      obtain ⟨x0, x1, x2, x3, x4⟩ := X3.out
      clear x1 x2 x3 x4 c1 c2 c3 c4 c5
      obtain ⟨da', hda'⟩ : ∃ d', (da.play cd).1 = d' := ⟨_, rfl⟩
      obtain ⟨ea, hea⟩ : ∃ e', (da.play cd).2 = e' := ⟨_, rfl⟩
      obtain ⟨db', hdb'⟩ : ∃ d', (db.play cd).1 = d' := ⟨_, rfl⟩
      obtain ⟨eb, heb⟩ : ∃ e', (db.play cd).2 = e' := ⟨_, rfl⟩
      rw [hdb', hda'] at C3
      rw [hea, heb]
      have hinv : da'.off = false ∧ da'.plan = 0 := by
        obtain ⟨h1, h2⟩ := HSTEP.out 1 (by omega)
        rw [hda', hea] at h1 h2
        by_cases h0 : ea = 0
        · exact ⟨(h2 h0).1, (h2 h0).2.1⟩
        · rw [(h1 h0).1]
          exact ⟨HF.out.off, HF.out.plan⟩
      have HINV := hide hinv
      clear hinv
      have HOB := hide (off_held C3.out.hy)
      by_cases hl0 : left = 0
      · have ho := HOFF.out (HF.out.done hl0)
        have hob : db'.off = true := by rw [← hdb', ho]; exact HF.out.done hl0
        have heb2 : eb = 220 := by rw [← heb, ho]
        subst heb2
        rw [hob] at HOB
        have HD : Hid (FailIn w w6 b5 da' S5 b6 db' S6 left) := ⟨C3.out.noF, HINV.out.1, HINV.out.2, fun _ => hob, fun h => absurd hl0 h, HF.out.le⟩
        have hlb : ((left : Int) == 0) = true := by simp [hl0]
        clear ho hob hda' hea hdb' heb hl0
        go_wp2_with (go_at_call 16; refine HOB.out.mono ?_; rintro e w7 ⟨rfl, rfl⟩)
        go_roundw
        case rel => exact ⟨k + 1, left, da', db', S5, S6, by omega, by go_num, rfl, HD⟩
        case measure => simp [intOf]; omega
      · obtain ⟨hs1, hs2⟩ := HSTEP.out left (by omega)
        rw [hda', hea] at hs1 hs2
        have hon := HF.out.on hl0
        rw [← hon, show db.play cd = (db', eb) from by rw [← hdb', ← heb]] at hs1 hs2
        have hlb : ((left : Int) == 0) = false := by simp [hl0]
        by_cases he0 : ea = 0
        · obtain ⟨-, -, q1, q2⟩ := hs2 he0
          have HE0 := hide he0
          have hea0 : (ea != 0) = false := by simp [he0]
          obtain ⟨p, rfl⟩ : ∃ p, left = p + 1 := ⟨left - 1, by omega⟩
          have Q1 := hide q1
          have Q2 := hide q2
          clear hs1 hs2 hon hda' hea hdb' heb hl0 q1 q2 he0
          have HFA := hide (files_held C3.out.hd)
          by_cases hp0 : p = 0
          · obtain ⟨r1, r2, r3⟩ := Q1.out (by omega)
            have heb2 : eb = 220 := r1
            have hob : db'.off = true := r2
            have hall : db'.all = if cd.kind = 1 then da'.all else da.all := r3
            subst heb2
            rw [hob] at HOB
            have hpb : ((p : Int) == 0) = true := by simp [hp0]
            have HALL := hide hall
            have HP0 := hide hp0
            have HOBO := hide hob
            clear r1 r2 r3 hob hall hp0
            by_cases hkk : cd.kind = 1
            · have hkb : (cd.kind != 1) = false := by simp [hkk]
              rw [if_pos hkk] at HALL
              clear hkk
              go_wp2_with fail
              refine HFA.out.mono ?_
              rintro e w7 ⟨GA, Gn, Gc, T7, rfl, f1, f2, f3, f4⟩
              have C4 := hide (C3.out.setF f3 f1 f2)
              have HOB2 := hide (off_held C4.out.hy)
              rw [HOBO.out] at HOB2
              have y0 := (X3.out.only f3 id).c0
              clear f1 f2 f3 f4
              go_wp2_with fail
              refine HOB2.out.mono ?_
              rintro e w8 ⟨rfl, rfl⟩
              go_wp2_with fail
              refine (files_held C4.out.hy).mono ?_
              rintro e w8 ⟨JA, Jn, Jc, T8, rfl, f1, f2, f3, f4⟩
              have C5 := hide (C4.out.grow f3)
              have hsm := hide (same_any f1.rdF C5.out.fl.rdF)
              rw [HALL.out, show decide (da'.all = da'.all) = true from decide_eq_true rfl] at hsm
              clear f1 f2 f3 f4
              go_wp2_with fail
              refine hsm.out.mono ?_
              rintro e w9 ⟨rfl, q, rfl⟩
              have HD : Hid (FailIn w (w8.drewN q) b5 da' S5 b6 db' S6 p) := ⟨(C5.out.grow ((Only.refl (fun _ => False) w8).drewN q)).noF, HINV.out.1, HINV.out.2, fun _ => HOBO.out, fun h => absurd HP0.out h, by have := HF.out.le; omega⟩
              go_wp2
              go_roundw
              case rel => exact ⟨k + 1, p, da', db', S5, S6, by omega, by go_num, by go_num, HD⟩
              case measure => simp [intOf]; omega
            · have hkb : (cd.kind != 1) = true := by simp [hkk]
              rw [if_neg hkk] at HALL
              clear hkk
              go_wp2_with fail
              refine HFA.out.mono ?_
              rintro e w7 ⟨GA, Gn, Gc, T7, rfl, f1, f2, f3, f4⟩
              have C4 := hide (C3.out.grow f3)
              have HOB2 := hide (off_held C4.out.hy)
              rw [HOBO.out] at HOB2
              have y0 := (X3.out.only f3 id).c0
              clear f1 f2 f3 f4
              go_wp2_with fail
              refine HOB2.out.mono ?_
              rintro e w8 ⟨rfl, rfl⟩
              go_wp2_with fail
              refine (files_held C4.out.hy).mono ?_
              rintro e w8 ⟨JA, Jn, Jc, T8, rfl, f1, f2, f3, f4⟩
              have C5 := hide (C4.out.grow f3)
              have hsm := hide (same_any f1.rdF C5.out.fl.rdF)
              rw [HALL.out, show decide (da.all = da.all) = true from decide_eq_true rfl] at hsm
              clear f1 f2 f3 f4
              go_wp2_with fail
              refine hsm.out.mono ?_
              rintro e w9 ⟨rfl, q, rfl⟩
              have HD : Hid (FailIn w (w8.drewN q) b5 da' S5 b6 db' S6 p) := ⟨(C5.out.grow ((Only.refl (fun _ => False) w8).drewN q)).noF, HINV.out.1, HINV.out.2, fun _ => HOBO.out, fun h => absurd HP0.out h, by have := HF.out.le; omega⟩
              go_wp2
              go_roundw
              case rel => exact ⟨k + 1, p, da', db', S5, S6, by omega, by go_num, by go_num, HD⟩
              case measure => simp [intOf]; omega
          · have hq := Q2.out (by omega)
            have heb2 : eb = 0 := by injection hq
            have hdb2 : db' = da'.with_ p false := by injection hq
            subst heb2
            have hob : db'.off = false := by rw [hdb2]; rfl
            rw [hob] at HOB
            have hpb : ((p : Int) == 0) = false := by simp [hp0]
            have HALL := hide (show db'.all = da'.all from by rw [hdb2]; rfl)
            have HP0 := hide hp0
            have HDB := hide hdb2
            clear hq hob hp0 hdb2
            go_wp2_with fail
            refine HFA.out.mono ?_
            rintro e w7 ⟨GA, Gn, Gc, T7, rfl, f1, f2, f3, f4⟩
            have C4 := hide (C3.out.setF f3 f1 f2)
            have HOB2 := hide (off_held C4.out.hy)
            rw [show db'.off = false from by rw [HDB.out]; rfl] at HOB2
            clear f1 f2 f3 f4
            go_wp2_with fail
            refine HOB2.out.mono ?_
            rintro e w8 ⟨rfl, rfl⟩
            go_wp2_with fail
            refine (files_held C4.out.hy).mono ?_
            rintro e w8 ⟨JA, Jn, Jc, T8, rfl, f1, f2, f3, f4⟩
            have C5 := hide (C4.out.grow f3)
            have hsm := hide (same_any f1.rdF C5.out.fl.rdF)
            rw [HALL.out, show decide (da'.all = da'.all) = true from decide_eq_true rfl] at hsm
            clear f1 f2 f3 f4
            go_wp2_with fail
            refine hsm.out.mono ?_
            rintro e w9 ⟨rfl, q, rfl⟩
            have HD : Hid (FailIn w (w8.drewN q) b5 da' S5 b6 db' S6 p) := ⟨(C5.out.grow ((Only.refl (fun _ => False) w8).drewN q)).noF, HINV.out.1, HINV.out.2, fun h => absurd h HP0.out, fun _ => HDB.out, by have := HF.out.le; omega⟩
            go_wp2
            go_roundw
            case rel => exact ⟨k + 1, p, da', db', S5, S6, by omega, by go_num, by go_num, HD⟩
            case measure => simp [intOf]; omega
        · obtain ⟨r1, r2⟩ := hs1 he0
          have hdd : da' = da := r1
          have hq : eb = ea := by injection r2
          have hdb2 : db' = db := by injection r2
          subst hq
          have hea0 : (eb != 0) = true := by simp [he0]
          have hob : db'.off = false := by rw [hdb2, hon]; rfl
          rw [hob] at HOB
          have hee : (eb != eb) = false := by simp
          have HD : Hid (FailIn w w6 b5 da' S5 b6 db' S6 left) := ⟨C3.out.noF, HINV.out.1, HINV.out.2, fun h => absurd h hl0, fun _ => by rw [hdb2, hdd]; exact hon, HF.out.le⟩
          clear hs1 hs2 hon hda' hea hdb' heb hl0 he0 r1 r2 hdd hdb2 hob
          go_wp2_with (go_at_call 16; refine HOB.out.mono ?_; rintro e w7 ⟨rfl, rfl⟩)
          go_roundw
          case rel => exact ⟨k + 1, left, da', db', S5, S6, by omega, by go_num, rfl, HD⟩
          case measure => simp [intOf]; omega
    · obtain rfl : k = m := by omega
      have HF := hide hF
      clear hF
      go_wp2_with fail
      refine (crash_held HF.out.two.hy _ [] (rds_nil _) (fun x hx => by cases hx)).mono ?_
      rintro e w4 ⟨rfl, S4, g1, g2⟩
      have C1 := hide (HF.out.two.stepY g1 g2)
      have hob : (db.crash []).off = false := rfl
      have HOB := hide (off_held C1.out.hy)
      rw [hob] at HOB
      have hap : ((db.crash []).append 0 []).2 = 0 := by
        have hu := C1.out.hy.disk.1.used
        unfold DS.append DS.gate
        rw [if_neg (by show ¬ false = true; decide), if_neg (by omega)]
        have : (db.crash []).fits false ([] : List UInt8).length (Int.toNat 0) = 0 := by
          unfold DS.fits
          simp only [Bool.false_eq_true, if_false, List.length_nil, Nat.sub_zero, Nat.add_zero]
          rw [if_neg (by omega)]
        rw [this, if_neg (by decide), if_pos (show (db.crash []).plan = 0 from rfl)]
      have HAP := hide (append_nil C1.out.hy 0)
      rw [hap] at HAP
      clear g1 g2 hob hap
      go_wp2_with fail
      refine HOB.out.mono ?_
      rintro e w5 ⟨rfl, rfl⟩
      go_wp2_with fail
      refine HAP.out.mono ?_
      rintro e w5 ⟨rfl, S5, g1, g2⟩
      have C2 := hide (C1.out.stepY g1 g2)
      clear g1 g2
      go_wp2_with (go_at_call 17; refine (begun22_any _).mono ?_; rintro e w6 ⟨rfl, h1⟩; have O1' := hide h1; clear h1)
      go_ret
      exact ⟨rfl, C2.out.only.trans' O1'.out⟩

end Go.Proofs.Ytldhpbmcpmebaaa
