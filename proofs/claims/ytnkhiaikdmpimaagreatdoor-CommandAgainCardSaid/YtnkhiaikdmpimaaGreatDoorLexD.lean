/- lex.isBareWord; TrimLeft AND IndexAny IN THE PLAIN WORDS OF lex. -/
import Derived.Test.YtnkhiaikdmpimaaGreatDoorLexC
import Derived.Lib.SlTrimSet
import Derived.Shelf.Strings.SlTrimAscii
namespace Go.Proofs.YtnkhiaikdmpimaaGreatDoor
open Go.RowKit Lx

theorem tabs_blank (c : UInt8) : tabs.contains c = blankB c := by
  have : ∀ c : Fin 256, tabs.contains (UInt8.ofNat c.val) = blankB (UInt8.ofNat c.val) := by decide +kernel
  have g := this ⟨c.toNat, c.toNat_lt⟩
  simpa only [UInt8.ofNat_toNat] using g
theorem trim_tabs (l : List UInt8) : Lib.trimLeftS l tabs = trimL l := by
  unfold Lib.trimLeftS trimL
  congr 1; funext c; exact tabs_blank c
theorem trimLeft_any (l : List UInt8) (w : World) :
    Calls Tryz.prog 39 #[.string ⟨l.toArray⟩, .string ⟨#[32, 9]⟩] w fun e w' => e = .returned (.string ⟨(trimL l).toArray⟩) ∧ Below w.heap.size w w' := by
  have h := Any.strings_TrimLeft_laid Tryz.lays161 infoSet ⟨l.toArray⟩ ⟨#[32, 9]⟩ w (by decide) (by
    intro j b hb
    match j, hb with
    | 0, hb => simp at hb; subst hb; decide
    | 1, hb => simp at hb; subst hb; decide
    | j + 2, hb => simp at hb)
  rw [show Lib.trimLeftS (⟨l.toArray⟩ : ByteArray).data.toList (⟨#[32, 9]⟩ : ByteArray).data.toList = trimL l from trim_tabs l] at h
  exact h
theorem index_tabs (l : List UInt8) : (Lib.indexAny l tabs = -1 ∧ wordOf l = l ∧ behindOf l = []) ∨
    (Lib.indexAny l tabs = (wordOf l).length ∧ (wordOf l).length ≤ l.length ∧ l.take (wordOf l).length = wordOf l ∧ l.drop (wordOf l).length = behindOf l) := by
  induction l with
  | nil => exact .inl ⟨rfl, rfl, rfl⟩
  | cons c l ih =>
    unfold wordOf behindOf at ih ⊢
    rw [Lib.indexAny, tabs_blank]
    by_cases hb : blankB c = true
    · rw [if_pos hb]
      refine .inr ?_
      simp [hb]
    · have hb' : blankB c = false := by simpa using hb
      rw [if_neg hb]
      rcases ih with ⟨h1, h2, h3⟩ | ⟨h1, h2, h3, h4⟩
      · refine .inl ?_
        rw [if_pos (by rw [h1]; rfl)]
        simp only [List.takeWhile_cons, List.dropWhile_cons, hb', Bool.not_false, if_true, h2, h3, and_self]
      · refine .inr ?_
        have : ¬ ((Lib.indexAny l tabs == -1) = true) := by rw [h1, beq_iff_eq]; omega
        rw [if_neg this, h1]
        simp only [List.takeWhile_cons, List.dropWhile_cons, hb', Bool.not_false, if_true, List.length_cons, List.take_succ_cons, List.drop_succ_cons, h3, h4, and_true]
        omega

/-- '[]byte(s)': a new block of its bytes -/
theorem bytes_of (l : List UInt8) (w : World) : ∃ cap W1, (convert 9 72 (.string ⟨l.toArray⟩)).run Tryz.prog w = .ok (.slice (some ⟨w.heap.size, 0, none⟩) l.length cap) W1 ∧
    (∀ (i : Nat) (h : i < l.length), W1.cell? ⟨w.heap.size, i, none⟩ = some (.int .u8 l[i].toNat)) ∧ Below w.heap.size w W1 ∧ W1.heap.size = w.heap.size + 1 ∧ l.length ≤ cap := by
  have h := run_bytes_of_string (P := Tryz.prog) w 9 72 5 ⟨l.toArray⟩ Tryz.underlying9 Tryz.underlying72 Tryz.underlying5
  have hz : (⟨l.toArray⟩ : ByteArray).size = l.length := by simp [ByteArray.size]
  refine ⟨_, _, by rw [hz] at h; exact h, ?_, ?_, ?_, ?_⟩
  · intro i hi
    have h1 := World.cell?_alloc_mark w.drew (bytesRow ⟨l.toArray⟩ (grownCap w l.length 0 5)) 5 ((bytesRow ⟨l.toArray⟩ (grownCap w l.length 0 5)).size, (bytesRow ⟨l.toArray⟩ (grownCap w l.length 0 5)).size + 1) i
    refine h1.trans ?_
    rw [bytesRow_at _ _ _ (by simpa using hi)]
    simp
  · exact ((Below.refl _ _).drew).alloc (Nat.le_refl _) _
  · simp
  · exact grownCap_ge w l.length 0 5

set_option maxHeartbeats 400000 in
set_option maxRecDepth 100000 in
theorem isBareWord_any (l : List UInt8) (hl : l.length ≤ 2000) (w : World) :
    Calls Tryz.prog 46 #[.string ⟨l.toArray⟩] w fun e w' => e = .returned (.bool (bareWord l)) ∧ Below w.heap.size w w' := by
  obtain ⟨cap, W1, hrun, hcell, hbel, hsz, hcap⟩ := bytes_of l w
  have HC := Lib.hid hcell
  have HB := Lib.hid hbel
  clear hcell hbel hsz
  go_enter Tryz.func46, Tryz.ntmps46
  go_wp2_with fail
  go_loop [4, 8] (fun _ i => ∃ k : Nat, k ≤ l.length ∧ i = .int .i64 k ∧ (l.take k).all bareB = true) (fun _ i => l.length - (intOf i).toNat)
  case atStart => exact ⟨0, Nat.zero_le _, rfl, rfl⟩
  case round =>
    obtain ⟨k, hk, rfl, hall⟩ := hrel
    have HA := Lib.hid hall
    clear hall
    by_cases hlt : k < l.length
    · have hc := HC.out k hlt
      have hsn : (l.take (k + 1)).all bareB = ((l.take k).all bareB && bareB l[k]) := by
        rw [List.take_succ_eq_append_getElem hlt, List.all_append]; simp only [List.all_cons, List.all_nil, Bool.and_true]
      have HS := Lib.hid hsn
      clear hsn
      cases hb : bareB l[k] with
      | true =>
        have H1 := isBare_any l[k]
        rw [hb] at H1
        have HB1 := Lib.hid H1
        have Hb := Lib.hid hb
        clear H1 hb
        go_wp2_with (go_at_call 64; refine (HB1.out _).mono ?_; rintro e w' ⟨rfl, rfl⟩)
        go_round
        case rel => exact ⟨k + 1, by omega, by go_num, by rw [HS.out, HA.out, Hb.out]; rfl⟩
        case measure => simp [intOf]; omega
      | false =>
        have H1 := isBare_any l[k]
        rw [hb] at H1
        have HB1 := Lib.hid H1
        have hfin : bareWord l = false := by
          unfold bareWord
          have : l.all bareB = false := by
            rw [← Bool.not_eq_true, List.all_eq_true]
            intro h
            have := h l[k] (List.getElem_mem _)
            rw [hb] at this; cases this
          rw [this]; rfl
        have HF := Lib.hid hfin
        clear H1 hb hfin
        go_wp2_with (go_at_call 64; refine (HB1.out _).mono ?_; rintro e w' ⟨rfl, rfl⟩)
        go_ret
        exact ⟨ret_bool HF.out.symm, HB.out⟩
    · have hall : l.all bareB = true := by have := HA.out; rw [List.take_of_length_le (by omega)] at this; exact this
      have hfin : bareWord l = (!l.isEmpty && l.head? != some 35) := by
        unfold bareWord
        rw [hall]; rfl
      have HF := Lib.hid hfin
      clear hall hfin HC hrun HA
      obtain rfl | ⟨c, r, rfl⟩ : l = [] ∨ ∃ c r, l = c :: r := by cases l <;> simp
      · go_wp2
        go_ret
        exact ⟨ret_bool HF.out.symm, HB.out⟩
      · have hk' : ¬ ((k : Int) < (r.length : Int) + 1) := by
          simp only [List.length_cons] at hlt; omega
        have hz : bareWord (c :: r) = ((c.toNat : Int) != 35) := by
          rw [HF.out, Bool.eq_iff_iff]
          simp only [List.isEmpty_cons, Bool.not_false, List.head?_cons, Bool.true_and, bne_iff_ne, ne_eq, Option.some.injEq]
          rw [← UInt8.toNat_inj]; show _ ↔ ¬ ((c.toNat : Int) = 35)
          constructor
          · intro h e; exact h (by show c.toNat = 35; omega)
          · intro h e; exact h (by have : c.toNat = 35 := e; omega)
        have HZ := Lib.hid hz
        clear hz
        go_wp2
        all_goals go_ret
        exact ⟨ret_bool HZ.out.symm, HB.out⟩
end Go.Proofs.YtnkhiaikdmpimaaGreatDoor
