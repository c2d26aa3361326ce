/- policy.count; strings.Trim at the ten digits; strings.Cut at '='. -/
import Derived.Test.YtnkhiaikdmpimaaGreatDoorLexJ
import Derived.Test.YtnkhiaikdmpimaaGreatDoorPolPlain
import Derived.Shelf.Strings.SlTrimAscii
import Derived.Lib.Atoi
namespace Go.Proofs.YtnkhiaikdmpimaaGreatDoor
open Go.RowKit Lx

theorem digitVal_is {c : UInt8} (h : isDigit c = true) : Lib.digitVal c = some (c.toNat - 48) := by
  have : ∀ n : Fin 256, isDigit (UInt8.ofNat n.val) = true → Lib.digitVal (UInt8.ofNat n.val) = some ((UInt8.ofNat n.val).toNat - 48) := by decide +kernel
  have h2 := this ⟨c.toNat, c.toNat_lt⟩
  simp only [UInt8.ofNat_toNat] at h2
  exact h2 h
theorem decFrom_is : ∀ (s : List UInt8) (acc : Nat), s.all isDigit = true → Lib.decFrom acc s = some (decv acc s)
  | [], acc, _ => by rw [decv_nil]; rfl
  | c :: s, acc, h => by
    simp only [List.all_cons, Bool.and_eq_true] at h
    rw [decv_cons, ← decFrom_is s _ h.2]
    simp [Lib.decFrom, digitVal_is h.1]
theorem atoi_is {c : UInt8} {r : List UInt8} (h : (c :: r).all isDigit = true) : Lib.atoi (c :: r) = some ((decv 0 (c :: r) : Nat) : Int) := by
  have hc : isDigit c = true := by simp only [List.all_cons, Bool.and_eq_true] at h; exact h.1
  have h1 : (c == 45) = false := by rw [beq_eq_false_iff_ne]; rintro rfl; revert hc; decide
  have h2 : (c == 43) = false := by rw [beq_eq_false_iff_ne]; rintro rfl; revert hc; decide
  unfold Lib.atoi
  simp only [h1, h2]
  have := decFrom_is (c :: r) 0 h
  simp [Lib.decNat, this]

theorem trim_any (s : List UInt8) (hl : s.length ≤ 4000) (w : World) :
    Calls Tryz.prog 100 #[.string ⟨s.toArray⟩, .string ⟨#[48, 49, 50, 51, 52, 53, 54, 55, 56, 57]⟩] w fun e w' => e = .returned (.string ⟨(Lib.trimS s v_digits).toArray⟩) ∧ Below w.heap.size w w' :=
  Any.strings_Trim_laid Tryz.lays160 (by kernel_rfl) ⟨s.toArray⟩ ⟨#[48, 49, 50, 51, 52, 53, 54, 55, 56, 57]⟩ w (by simp [ByteArray.size]; omega) (by decide) (ascii_of_all (by decide))

set_option maxRecDepth 100000 in
theorem count_any (s : List UInt8) (hl : s.length ≤ 4000) (w : World) (hv : HasErr w) :
    Calls Tryz.prog 83 #[.string ⟨s.toArray⟩] w fun e w' => e = .returned (.int .i64 (cntP s)) ∧ Below w.heap.size w w' := by
  by_cases h4 : 4 < s.length
  · have hi : (4 : Int) < (s.length : Int) := by omega
    have e : cntP s = 0 := by unfold cntP; rw [show decide (s.length ≤ 4) = false by simp only [decide_eq_false_iff_not]; omega]; rfl
    rw [e]
    go_enter Tryz.func83, Tryz.ntmps83
    go_wp2_with fail
    go_ret
    exact ⟨rfl, Below.refl _ _⟩
  have hi : ¬ (4 : Int) < (s.length : Int) := by omega
  have HT := Lib.hid (fun w => trim_any s hl w)
  by_cases hd : s.all isDigit = true
  · have ht : Lib.trimS s v_digits = [] := (trim_digits s).2 hd
    rw [ht] at HT
    have HP : Hid (∀ w, Calls Tryz.prog 95 #[.string ⟨s.toArray⟩, .string ⟨#[48]⟩] w fun e w' => e = .returned (.bool (s.head? == some 48)) ∧ w' = w) := Lib.hid (fun w => by
      have h := Tryz.strings_HasPrefix ⟨s.toArray⟩ ⟨#[48]⟩ w
      have e : Lib.hasPrefix (⟨s.toArray⟩ : ByteArray).data.toList (⟨#[48]⟩ : ByteArray).data.toList = (s.head? == some 48) := by
        unfold Lib.hasPrefix
        cases s with
        | nil => rfl
        | cons c r => simp [List.isPrefixOf]; rw [Bool.eq_iff_iff]; simp; exact eq_comm
      rw [e] at h
      exact h)
    cases h0 : (s.head? == some 48) with
    | true =>
      have e : cntP s = 0 := by unfold cntP; rw [show (s.head? != some 48) = false by rw [bne, h0]; rfl]; simp
      rw [h0] at HP
      rw [e]
      clear hd ht h0 e
      go_enter Tryz.func83, Tryz.ntmps83
      go_wp2_with (first | (go_at_call 100; with_reducible refine (HT.out _).mono ?_; rintro e w1 ⟨rfl, hb1⟩) | (go_at_call 95; with_reducible refine (HP.out _).mono ?_; rintro e w2 ⟨rfl, rfl⟩))
      go_ret
      exact ⟨rfl, hb1⟩
    | false =>
      have e : cntP s = decv 0 s := by unfold cntP; rw [show (s.head? != some 48) = true by rw [bne, h0]; rfl, hd, decide_eq_true (by omega)]; rfl
      rw [h0] at HP
      rw [e]
      clear ht h0 e
      obtain rfl | ⟨c, r, rfl⟩ : s = [] ∨ ∃ c r, s = c :: r := by cases s <;> simp
      · have HV := Lib.hid hv
        have HA : Hid (∀ w, HasErr w → Calls Tryz.prog 101 #[.string ⟨#[]⟩] w fun e w' => ∃ x y, e = .returned (.tuple #[.int .i64 0, .iface x y]) ∧ Below w.heap.size w w') := Lib.hid (fun w hv => by
          obtain ⟨ev, hc, he⟩ := hv.2
          exact (Tryz.strconv_Atoi_err ⟨#[]⟩ (by decide) rfl ev w hc he).mono fun e w' ⟨N, h1, _, _, h2⟩ => ⟨_, _, h1, h2⟩)
        rw [decv_nil]
        clear hd hv
        go_enter Tryz.func83, Tryz.ntmps83
        go_wp2_with (first | (go_at_call 100; with_reducible refine (HT.out _).mono ?_; rintro e w1 ⟨rfl, hb1⟩) | (go_at_call 95; with_reducible refine (HP.out _).mono ?_; rintro e w2 ⟨rfl, rfl⟩) | (go_at_call 101; with_reducible refine (HA.out _ (HV.out.below hb1)).mono ?_; rintro e w3 ⟨x, y, rfl, hb3⟩))
        go_ret
        exact ⟨rfl, hb1.trans (hb3.mono hb1.size)⟩
      · have HA : Hid (∀ w, Calls Tryz.prog 101 #[.string ⟨(c :: r).toArray⟩] w fun e w' => e = .returned (.tuple #[.int .i64 (decv 0 (c :: r) : Nat), .nilIface]) ∧ Below w.heap.size w w') := Lib.hid (fun w =>
          (Tryz.strconv_Atoi ⟨(c :: r).toArray⟩ _ (by simp [ByteArray.size]; simp at h4; omega) (atoi_is hd) w).mono fun e w' ⟨h1, t, h2⟩ => ⟨h1, by
            rw [h2]
            exact Go.Joins.below_bytesWorld _ _ _ _ (Nat.le_refl _)⟩)
        generalize decv 0 (c :: r) = m at *
        have hi2 : (r.length : Int) + 1 ≤ 4 := by simp only [List.length_cons] at h4; omega
        clear hd hv hi h4
        go_enter Tryz.func83, Tryz.ntmps83
        go_wp2_with (first | (go_at_call 100; with_reducible refine (HT.out _).mono ?_; rintro e w1 ⟨rfl, hb1⟩) | (go_at_call 95; with_reducible refine (HP.out _).mono ?_; rintro e w2 ⟨rfl, rfl⟩) | (go_at_call 101; with_reducible refine (HA.out _).mono ?_; rintro e w3 ⟨rfl, hb3⟩))
        go_ret
        exact ⟨rfl, hb1.trans (hb3.mono hb1.size)⟩
  · have ht : Lib.trimS s v_digits ≠ [] := fun h => hd ((trim_digits s).1 h)
    have e : cntP s = 0 := by unfold cntP; rw [show s.all isDigit = false by simpa using hd]; simp
    rw [e]
    have hne : (Lib.trimS s v_digits == []) = false := by simpa using ht
    generalize Lib.trimS s v_digits = tr at *
    clear hd e ht
    go_enter Tryz.func83, Tryz.ntmps83
    go_wp2_with (go_at_call 100; with_reducible refine (HT.out _).mono ?_; rintro e w1 ⟨rfl, hb1⟩)
    go_ret
    exact ⟨rfl, hb1⟩
end Go.Proofs.YtnkhiaikdmpimaaGreatDoor
