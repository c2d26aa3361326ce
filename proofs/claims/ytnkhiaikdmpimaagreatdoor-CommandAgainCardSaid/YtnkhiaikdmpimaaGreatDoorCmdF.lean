/- cauteryref34.Text. -/
import Derived.Test.YtnkhiaikdmpimaaGreatDoorCmdC
import Derived.Test.YtnkhiaikdmpimaaGreatDoorCmdE
namespace Go.Proofs.YtnkhiaikdmpimaaGreatDoor
open Go.RowKit Lx

def verbs : List (List UInt8) := [v_create, v_drop, v_write, v_trim, v_read, v_snap, v_destroy, v_rollback, v_hold, v_release, v_clone, v_send, v_scrub, v_heal, v_list, v_losses, v_keep, v_auto]
theorem partsN_verb (c : Cmd) (h : c.verb ∉ verbs) : partsN c = none := by
  simp only [verbs, List.mem_cons, List.not_mem_nil, or_false, not_or] at h
  obtain ⟨h1, h2, h3, h4, h5, h6, h7, h8, h9, h10, h11, h12, h13, h14, h15, h16, h17, h18⟩ := h
  unfold partsN
  rw [if_neg h1, if_neg h2, if_neg h3, if_neg h4, if_neg h5, if_neg h6, if_neg h7, if_neg h8, if_neg h9, if_neg h10, if_neg h11, if_neg h12, if_neg h13, if_neg h14, if_neg h15, if_neg h16, if_neg h17, if_neg h18]
theorem verbs_len : ∀ v ∈ verbs, v.length ≤ 8 := by decide
theorem verb_len (c : Cmd) (r : List Nat) (h : partsN c = some r) : c.verb.length ≤ 8 := by
  by_cases hv : c.verb ∈ verbs
  · exact verbs_len _ hv
  · rw [partsN_verb c hv] at h; cases h
theorem nameB_len {s : List UInt8} {is : Bool} (h : nameB s is = true) : s.length ≤ 12 := by
  unfold nameB at h
  cases is with
  | true => simp at h; exact h.2
  | false => simp at h; simp [h]
structure Bounds (c : Cmd) : Prop where
  verb : c.verb.length ≤ 8
  set : c.set.length ≤ 12
  snap : c.snap.length ≤ 12
  other : c.other.length ≤ 12
  text : c.text.length ≤ 256
  cell0 : 0 ≤ c.cell
  cell1 : c.cell < 16
  keep : polB c.keep = true
theorem fits_bounds (c : Cmd) (r : List Nat) (h : partsN c = some r) (hf : fitsP c r = true) : Bounds c := by
  unfold fitsP at hf
  simp only [Bool.and_eq_true, decide_eq_true_eq] at hf
  exact ⟨verb_len c r h, nameB_len hf.1.1.1.1.1.1, nameB_len hf.1.1.1.1.1.2, nameB_len hf.1.1.1.1.2, hf.1.1.1.2.1, hf.1.1.2.1.1, hf.1.1.2.1.2, hf.2.1⟩
theorem polText_len {k : Pol} (h : polB k = true) : (polText k).length ≤ 140 := by
  have h1 := polWords_len h 5 (by omega)
  rw [polText_eq]
  by_cases e : joinSp (polWords (k.pairs.take 5)) = []
  · rw [if_pos e]; decide
  · rw [if_neg e]; exact h1
def NowOk (c : Cmd) : Prop := 0 ≤ c.now ∧ c.now < 18446744073709551616
theorem wordP_len {c : Cmd} (hb : Bounds c) (hn : NowOk c) (p : Nat) : (wordP c p).length ≤ 1026 := by
  have q := fun s => quote_len s
  have h1 := hb.set; have h2 := hb.snap; have h3 := hb.other; have h4 := hb.text; have h5 := itoa_len c.cell hb.cell0 (by have := hb.cell1; omega)
  have h6 := itoa_len c.now hn.1 (by have := hn.2; omega)
  have h7 := polText_len hb.keep
  match p with
  | 0 => have := q c.set; simp only [wordP]; omega
  | 1 => have := q c.snap; simp only [wordP]; omega
  | 2 => have := q c.other; simp only [wordP]; omega
  | 3 => simp only [wordP]; omega
  | 4 => have := q c.text; simp only [wordP]; omega
  | 5 => simp only [wordP]; omega
  | 6 => have := q (polText c.keep); simp only [wordP]; omega
  | 7 => simp [wordP]
  | (n + 8) => simp [wordP]
theorem headP_len {c : Cmd} (hb : Bounds c) : ∀ s ∈ headP c, s.length ≤ 1026 := by
  have := hb.verb
  unfold headP
  cases c.second
  · intro s hs; simp at hs; subst hs; omega
  · intro s hs; simp at hs; rcases hs with rfl | rfl
    · simp
    · omega
def textK (c : Cmd) (r : List Nat) (k : Nat) : List UInt8 := joinSp (headP c ++ (r.take k).map (wordP c))
theorem textK_len {c : Cmd} (hb : Bounds c) (hn : NowOk c) (r : List Nat) (k : Nat) (hk : k ≤ 4) : (textK c r k).length ≤ 7000 := by
  have h := joinSp_len (headP c ++ (r.take k).map (wordP c)) 1026 (by
    intro s hs
    rcases List.mem_append.1 hs with hs | hs
    · exact headP_len hb s hs
    · obtain ⟨p, _, rfl⟩ := List.mem_map.1 hs; exact wordP_len hb hn p)
  have h1 : (headP c).length ≤ 2 := by unfold headP; cases c.second <;> simp
  have h2 : (headP c ++ (r.take k).map (wordP c)).length ≤ 6 := by rw [List.length_append, List.length_map, List.length_take]; omega
  have := Nat.mul_le_mul_right (1026 + 1) h2
  unfold textK
  omega
theorem headP_ne (c : Cmd) : headP c ≠ [] := by unfold headP; cases c.second <;> simp
theorem textK_succ (c : Cmd) (r : List Nat) (k : Nat) (h : k < r.length) : textK c r (k + 1) = textK c r k ++ 32 :: wordP c (r[k]'h) := by
  unfold textK
  rw [List.take_succ_eq_append_getElem h, List.map_append, ← List.append_assoc]
  exact joinSp_snoc _ _ (by simp [headP_ne])
theorem textK_zero (c : Cmd) (r : List Nat) : textK c r 0 = if c.second then v_other ++ 32 :: c.verb else c.verb := by
  unfold textK headP
  cases c.second
  · exact joinSp_one _
  · exact (joinSp_snoc [v_other] c.verb (by simp)).trans (by rw [joinSp_one]; rfl)
theorem textK_all (c : Cmd) (r : List Nat) : textK c r r.length = joinSp (headP c ++ r.map (wordP c)) := by
  unfold textK; rw [List.take_length]
/-- a command's box -/
def BoxOf (w : World) (b : Nat) (T : TypeId) (c : Cmd) : Prop := w.heap[b]? = some (.cells #[.bool c.second, .string ⟨c.verb.toArray⟩, .string ⟨c.set.toArray⟩, .string ⟨c.snap.toArray⟩, .string ⟨c.other.toArray⟩, .string ⟨c.text.toArray⟩, .int .i64 c.cell, .int .u64 c.now, .int .i64 c.keep.last, .int .i64 c.keep.hours, .int .i64 c.keep.days, .int .i64 c.keep.weeks, .int .i64 c.keep.months] T (0, 0))
theorem BoxOf.below {w w' : World} {b : Nat} {T : TypeId} {c : Cmd} (h : BoxOf w b T c) (hb : Below w.heap.size w w') : BoxOf w' b T c :=
  (hb.block b (heap_lt h)).trans h
theorem encCmd_eq (c : Cmd) : encCmd c = .agg #[.bool c.second, .string ⟨c.verb.toArray⟩, .string ⟨c.set.toArray⟩, .string ⟨c.snap.toArray⟩, .string ⟨c.other.toArray⟩, .string ⟨c.text.toArray⟩, .int .i64 c.cell, .int .u64 c.now, .int .i64 c.keep.last, .int .i64 c.keep.hours, .int .i64 c.keep.days, .int .i64 c.keep.weeks, .int .i64 c.keep.months] := rfl
/-- the cells of a box, each told -/
theorem BoxOf.cells {w : World} {b : Nat} {T : TypeId} {c : Cmd} (h : BoxOf w b T c) :
    w.cell? ⟨b, 0, none⟩ = some (.bool c.second) ∧ w.cell? ⟨b, 1, none⟩ = some (.string ⟨c.verb.toArray⟩) ∧ w.cell? ⟨b, 2, none⟩ = some (.string ⟨c.set.toArray⟩) ∧ w.cell? ⟨b, 3, none⟩ = some (.string ⟨c.snap.toArray⟩) ∧
    w.cell? ⟨b, 4, none⟩ = some (.string ⟨c.other.toArray⟩) ∧ w.cell? ⟨b, 5, none⟩ = some (.string ⟨c.text.toArray⟩) ∧ w.cell? ⟨b, 6, none⟩ = some (.int .i64 c.cell) ∧ w.cell? ⟨b, 7, none⟩ = some (.int .u64 c.now) ∧
    w.cell? ⟨b, 8, none⟩ = some (.int .i64 c.keep.last) ∧ w.cell? ⟨b, 9, none⟩ = some (.int .i64 c.keep.hours) ∧ w.cell? ⟨b, 10, none⟩ = some (.int .i64 c.keep.days) ∧ w.cell? ⟨b, 11, none⟩ = some (.int .i64 c.keep.weeks) ∧ w.cell? ⟨b, 12, none⟩ = some (.int .i64 c.keep.months) :=
  ⟨box_at h 0 _ rfl, box_at h 1 _ rfl, box_at h 2 _ rfl, box_at h 3 _ rfl, box_at h 4 _ rfl, box_at h 5 _ rfl, box_at h 6 _ rfl, box_at h 7 _ rfl, box_at h 8 _ rfl, box_at h 9 _ rfl, box_at h 10 _ rfl, box_at h 11 _ rfl, box_at h 12 _ rfl⟩
theorem may_parts {c : Cmd} (h : mayN c = true) : ∃ r, partsN c = some r ∧ fitsP c r = true := by
  unfold mayN at h
  split at h
  · rename_i r hr; exact ⟨r, hr, h⟩
  · cases h
theorem rowOf_may (c : Cmd) : (rowOfP c).isSome = mayN c := by
  rw [rowOf_parts]; unfold mayN
  cases partsN c with
  | none => rfl
  | some r => simp only [Option.filter]; cases fitsP c r <;> rfl
theorem rowOf_of {c : Cmd} {r : List Nat} (hp : partsN c = some r) (hf : fitsP c r = true) : rowOfP c = some r := by
  rw [rowOf_parts, hp]; simp only [Option.filter]; rw [hf]; rfl

set_option maxHeartbeats 4000000 in
set_option maxRecDepth 100000 in
theorem rtext_any (c : Cmd) (hn : NowOk c) (w : World) :
    Calls Tryz.prog 9 #[encCmd c] w fun e w' => e = .returned (.tuple #[.string ⟨(textB c).1.toArray⟩, .int .i64 (textB c).2]) ∧ Below w.heap.size w w' := by
  have HM := Lib.hid (fun w => rmay_any c w)
  have HP := Lib.hid (fun w => parts_any c w)
  rw [encCmd_eq] at HM HP ⊢
  go_enter Tryz.func9, Tryz.ntmps9
  go_wp2_with (go_at_call 12; refine (HM.out _).mono ?_)
  first | rintro e w1 rfl hb1 | rintro e w1 ⟨rfl, hb1⟩
  have hbk : BoxOf w1 w.heap.size 35 c := box_below hb1
  have HB := Lib.hid (((Below.refl w.heap.size w).alloc (Nat.le_refl _) _).trans (hb1.mono (by rw [World.size_alloc]; omega)))
  have hlt : w.heap.size < w1.heap.size := by have := hb1.size; rw [World.size_alloc] at this; omega
  clear hb1
  cases hm : mayN c with
  | false =>
    have ht : textB c = ([], 1) := by
      have := rowOf_may c; rw [hm] at this
      unfold textB
      cases hr : rowOfP c with
      | none => rfl
      | some r => rw [hr] at this; cases this
    have HT := Lib.hid ht
    clear ht
    go_wp2_with fail
    go_ret2
    rw [HT.out]
    exact ⟨rfl, HB.out⟩
  | true =>
    obtain ⟨r, hp, hf⟩ := may_parts hm
    have hb := fits_bounds c r hp hf
    have ht : textB c = (textK c r r.length, 0) := by unfold textB; rw [rowOf_of hp hf, textK_all]
    have HT := Lib.hid ht
    have HBD := Lib.hid hb
    have HBK := Lib.hid hbk
    have HS : partsS c = r.map letter := by unfold partsS; rw [hp]
    have hi : (partsN c).isSome = true := by rw [hp]; rfl
    rw [HS, hi] at HP
    have HR := Lib.hid (partsN_le c r hp)
    have hrl := parts_len c r hp
    obtain ⟨c0, c1, c2, c3, c4, c5, c6, c7, c8, c9, c10, c11, c12⟩ := hbk.cells
    have hvl := hb.verb
    have HZ := Lib.hid (textK_zero c r)
    have HNX := Lib.hid (fun k h => textK_succ c r k h)
    have HLN := Lib.hid (fun k h => textK_len hb hn r k h)
    clear hm hf ht hbk hb HS hi hp
    go_upto_if 15 with fail
    go_cut [4] (fun v wx => v = .string ⟨(textK c r 0).toArray⟩ ∧ wx = w1)
    case first =>
      go_wp2_with fail
      all_goals go_meet
      all_goals refine ⟨?_, rfl⟩
      all_goals first
        | (have hsec : c.second = true := by assumption
           rw [HZ.out, hsec]; rfl)
        | (have hsec : c.second = false := by first | assumption | exact Bool.eq_false_iff.2 (by assumption)
           rw [HZ.out, hsec]; rfl)
    case rest =>
      obtain ⟨rfl, rfl⟩ := hcut
      have HVL := Lib.hid hvl
      clear hvl
      go_wp2_with (go_at_call 17; refine (HP.out _).mono ?_)
      first | rintro e w2 rfl hb2 | rintro e w2 ⟨rfl, hb2⟩
      have hbk2 := HBK.out.below hb2
      have HB2 := Lib.hid (HB.out.trans (hb2.mono HB.out.size))
      have HBK2 := Lib.hid hbk2
      clear c0 c1 c2 c3 c4 c5 c6 c7 c8 c9 c10 c11 c12 hb2 hbk2
      go_wp2_with fail
      go_loopg [4, 7] r.length (fun g vs vi wr => ∃ k : Nat, g = r.length - k ∧ k ≤ r.length ∧ vs = .string ⟨(textK c r k).toArray⟩ ∧ vi = .int .i64 k ∧ BoxOf wr w.heap.size 35 c ∧ Below w.heap.size w wr)
      case atStart => exact ⟨0, rfl, Nat.zero_le _, rfl, rfl, HBK2.out, HB2.out⟩
      case round =>
        obtain ⟨k, hg, hk, rfl, rfl, hbx, hbr⟩ := hrel
        have HBX := Lib.hid hbx
        have HBr := Lib.hid hbr
        have hsz := hbr.size
        have htl := HLN.out k (by omega)
        by_cases hlt : k < r.length
        · have hki : (k : Int) < (r.length : Int) := by omega
          have hnx := HNX.out k hlt
          have hp8 := HR.out _ (List.getElem_mem hlt)
          obtain ⟨c0, c1, c2, c3, c4, c5, c6, c7, c8, c9, c10, c11, c12⟩ := hbx.cells
          have hwl := wordP_len HBD.out hn (r[k]'hlt)
          have hix : (r.map letter)[k]'(by simpa using hlt) = letter (r[k]'hlt) := by simp
          clear hbx hbr
          generalize r[k]'hlt = p at *
          generalize textK c r k = t at *
          match p, hp8 with
          | 0, _ =>
            have HQ := Lib.hid (fun w => rquote_any c.set (by have := HBD.out.set; omega) w)
            have hnx : textK c r (k + 1) = t ++ 32 :: (quoteB c.set) := hnx
            have hwl : (quoteB c.set).length ≤ 1026 := hwl
            have hix : (r.map letter)[k]'(by simpa using hlt) = 115 := hix
            have HX := Lib.hid hnx
            clear hnx
            generalize quoteB c.set = wd at *
            go_wp2_with (go_at_call 18; with_reducible refine (HQ.out _).mono ?_; first | rintro e w3 rfl hb3 | rintro e w3 ⟨rfl, hb3⟩)
            go_roundg (r.length - (k + 1))
            case measure => omega
            case rel => exact ⟨k + 1, rfl, hlt, by rw [HX.out], by go_num, HBX.out.below hb3, HBr.out.trans (hb3.mono hsz)⟩
          | 1, _ =>
            have HQ := Lib.hid (fun w => rquote_any c.snap (by have := HBD.out.snap; omega) w)
            have hnx : textK c r (k + 1) = t ++ 32 :: (quoteB c.snap) := hnx
            have hwl : (quoteB c.snap).length ≤ 1026 := hwl
            have hix : (r.map letter)[k]'(by simpa using hlt) = 110 := hix
            have HX := Lib.hid hnx
            clear hnx
            generalize quoteB c.snap = wd at *
            go_wp2_with (go_at_call 18; with_reducible refine (HQ.out _).mono ?_; first | rintro e w3 rfl hb3 | rintro e w3 ⟨rfl, hb3⟩)
            go_roundg (r.length - (k + 1))
            case measure => omega
            case rel => exact ⟨k + 1, rfl, hlt, by rw [HX.out], by go_num, HBX.out.below hb3, HBr.out.trans (hb3.mono hsz)⟩
          | 2, _ =>
            have HQ := Lib.hid (fun w => rquote_any c.other (by have := HBD.out.other; omega) w)
            have hnx : textK c r (k + 1) = t ++ 32 :: (quoteB c.other) := hnx
            have hwl : (quoteB c.other).length ≤ 1026 := hwl
            have hix : (r.map letter)[k]'(by simpa using hlt) = 111 := hix
            have HX := Lib.hid hnx
            clear hnx
            generalize quoteB c.other = wd at *
            go_wp2_with (go_at_call 18; with_reducible refine (HQ.out _).mono ?_; first | rintro e w3 rfl hb3 | rintro e w3 ⟨rfl, hb3⟩)
            go_roundg (r.length - (k + 1))
            case measure => omega
            case rel => exact ⟨k + 1, rfl, hlt, by rw [HX.out], by go_num, HBX.out.below hb3, HBr.out.trans (hb3.mono hsz)⟩
          | 3, _ =>
            have k0 := HBD.out.cell0
            have k1 := HBD.out.cell1
            have HQ : Hid (∀ w : World, Calls Tryz.prog 19 #[.int .u64 c.cell] w fun e w' => e = .returned (.string ⟨(Lib.itoa c.cell).toArray⟩) ∧ Below w.heap.size w w') := Lib.hid (by
              obtain ⟨m, hm⟩ : ∃ m : Nat, c.cell = m := ⟨c.cell.toNat, by omega⟩
              rw [hm]; exact fun w => rdecimal34_any m (by omega) w)
            have hnx : textK c r (k + 1) = t ++ 32 :: (Lib.itoa c.cell) := hnx
            have hwl : (Lib.itoa c.cell).length ≤ 1026 := hwl
            have hix : (r.map letter)[k]'(by simpa using hlt) = 99 := hix
            have HX := Lib.hid hnx
            clear hnx
            generalize Lib.itoa c.cell = wd at *
            go_wp2_with (go_at_call 19; with_reducible refine (HQ.out _).mono ?_; first | rintro e w3 rfl hb3 | rintro e w3 ⟨rfl, hb3⟩)
            go_roundg (r.length - (k + 1))
            case measure => omega
            case rel => exact ⟨k + 1, rfl, hlt, by rw [HX.out], by go_num, HBX.out.below hb3, HBr.out.trans (hb3.mono hsz)⟩
          | 4, _ =>
            have HQ := Lib.hid (fun w => rquote_any c.text (by have := HBD.out.text; omega) w)
            have hnx : textK c r (k + 1) = t ++ 32 :: (quoteB c.text) := hnx
            have hwl : (quoteB c.text).length ≤ 1026 := hwl
            have hix : (r.map letter)[k]'(by simpa using hlt) = 116 := hix
            have HX := Lib.hid hnx
            clear hnx
            generalize quoteB c.text = wd at *
            go_wp2_with (go_at_call 18; with_reducible refine (HQ.out _).mono ?_; first | rintro e w3 rfl hb3 | rintro e w3 ⟨rfl, hb3⟩)
            go_roundg (r.length - (k + 1))
            case measure => omega
            case rel => exact ⟨k + 1, rfl, hlt, by rw [HX.out], by go_num, HBX.out.below hb3, HBr.out.trans (hb3.mono hsz)⟩
          | 5, _ =>
            have k0 := hn.1
            have k1 := hn.2
            have HQ : Hid (∀ w : World, Calls Tryz.prog 19 #[.int .u64 c.now] w fun e w' => e = .returned (.string ⟨(Lib.itoa c.now).toArray⟩) ∧ Below w.heap.size w w') := Lib.hid (by
              obtain ⟨m, hm⟩ : ∃ m : Nat, c.now = m := ⟨c.now.toNat, by omega⟩
              rw [hm]; exact fun w => rdecimal34_any m (by omega) w)
            have hnx : textK c r (k + 1) = t ++ 32 :: (Lib.itoa c.now) := hnx
            have hwl : (Lib.itoa c.now).length ≤ 1026 := hwl
            have hix : (r.map letter)[k]'(by simpa using hlt) = 119 := hix
            have HX := Lib.hid hnx
            clear hnx
            generalize Lib.itoa c.now = wd at *
            go_wp2_with (go_at_call 19; with_reducible refine (HQ.out _).mono ?_; first | rintro e w3 rfl hb3 | rintro e w3 ⟨rfl, hb3⟩)
            go_roundg (r.length - (k + 1))
            case measure => omega
            case rel => exact ⟨k + 1, rfl, hlt, by rw [HX.out], by go_num, HBX.out.below hb3, HBr.out.trans (hb3.mono hsz)⟩
          | 6, _ =>
            have HK : Hid (∀ w : World, Calls Tryz.prog 20 #[.agg #[.int .i64 c.keep.last, .int .i64 c.keep.hours, .int .i64 c.keep.days, .int .i64 c.keep.weeks, .int .i64 c.keep.months]] w fun e w' => e = .returned (.string ⟨(polText c.keep).toArray⟩) ∧ Below w.heap.size w w') := Lib.hid (fun w => rpolText_any c.keep HBD.out.keep w)
            have HQ := Lib.hid (fun w => rquote_any (polText c.keep) (by have := polText_len HBD.out.keep; omega) w)
            have hnx : textK c r (k + 1) = t ++ 32 :: (quoteB (polText c.keep)) := hnx
            have hwl : (quoteB (polText c.keep)).length ≤ 1026 := hwl
            have hix : (r.map letter)[k]'(by simpa using hlt) = 107 := hix
            have HX := Lib.hid hnx
            clear hnx
            generalize quoteB (polText c.keep) = wd at *
            go_wp2_with (first | (go_at_call 20; with_reducible refine (HK.out _).mono ?_; first | rintro e w2 rfl hb2 | rintro e w2 ⟨rfl, hb2⟩) | (go_at_call 18; with_reducible refine (HQ.out _).mono ?_; first | rintro e w3 rfl hb3 | rintro e w3 ⟨rfl, hb3⟩))
            go_wp2_with (first | (go_at_call 20; with_reducible refine (HK.out _).mono ?_; first | rintro e w2 rfl hb2 | rintro e w2 ⟨rfl, hb2⟩) | (go_at_call 18; with_reducible refine (HQ.out _).mono ?_; first | rintro e w3 rfl hb3 | rintro e w3 ⟨rfl, hb3⟩))
            go_roundg (r.length - (k + 1))
            case measure => omega
            case rel => exact ⟨k + 1, rfl, hlt, by rw [HX.out], by go_num, HBX.out.below (hb2.trans (hb3.mono hb2.size)), HBr.out.trans ((hb2.trans (hb3.mono hb2.size)).mono hsz)⟩
          | 7, _ =>
            have hnx : textK c r (k + 1) = t ++ 32 :: ([64]) := hnx
            have hwl : ([64]).length ≤ 1026 := hwl
            have hix : (r.map letter)[k]'(by simpa using hlt) = 64 := hix
            have HX := Lib.hid hnx
            clear hnx
            go_wp2_with fail
            go_roundg (r.length - (k + 1))
            case measure => omega
            case rel => exact ⟨k + 1, rfl, hlt, by rw [HX.out], by go_num, HBX.out, HBr.out⟩
          | 8, _ =>
            have hnx : textK c r (k + 1) = t ++ 32 :: (v_from) := hnx
            have hwl : (v_from).length ≤ 1026 := hwl
            have hix : (r.map letter)[k]'(by simpa using hlt) = 102 := hix
            have HX := Lib.hid hnx
            clear hnx
            go_wp2_with fail
            go_roundg (r.length - (k + 1))
            case measure => omega
            case rel => exact ⟨k + 1, rfl, hlt, by rw [HX.out], by go_num, HBX.out, HBr.out⟩
          | (q + 9), h => exact absurd h (by omega)
        · have hki : ¬ (k : Int) < (r.length : Int) := by omega
          obtain rfl : k = r.length := by omega
          clear hbx hbr
          go_wp2_with fail
          go_ret2
          rw [HT.out]
          exact ⟨rfl, HBr.out⟩
end Go.Proofs.YtnkhiaikdmpimaaGreatDoor
