/- THE PLAIN LAW OF lex.Number: a text of digits, what it is worth, and the greatest one of twenty. -/
import Derived.Lib.ParseIntB
import GoSem.Op.String
namespace Lx
open Go.Lib

def isDigit (c : UInt8) : Bool := decide (48 ≤ c.toNat) && decide (c.toNat ≤ 57)
@[irreducible] def dstep (acc : Nat) (c : UInt8) : Nat := acc * 10 + (c.toNat - 48)
theorem dstep_eq (acc : Nat) (c : UInt8) : dstep acc c = acc * 10 + (c.toNat - 48) := by unfold dstep; rfl
def decv (acc : Nat) (s : List UInt8) : Nat := List.foldl dstep acc s
theorem decv_nil (acc : Nat) : decv acc [] = acc := List.foldl_nil
theorem decv_cons (acc : Nat) (c : UInt8) (s : List UInt8) : decv acc (c :: s) = decv (acc * 10 + (c.toNat - 48)) s := by
  rw [← dstep_eq]; exact List.foldl_cons ..
theorem le_decv (acc : Nat) (s : List UInt8) : acc ≤ decv acc s := by
  induction s generalizing acc with
  | nil => rw [decv_nil]; exact Nat.le_refl _
  | cons c s ih => rw [decv_cons]; have := ih (acc * 10 + (c.toNat - 48)); omega
/-- may a text be a number, as it is written? -/
def formed (s : List UInt8) : Bool := !s.isEmpty && decide (s.length ≤ 20) && (s.head? != some 48 || s == [48]) && s.all isDigit
/-- the number of a text, and why there is none -/
def number (s : List UInt8) : Nat × Int := if formed s then (if decv 0 s < 18446744073709551616 then (decv 0 s, 0) else (0, 4)) else (0, 3)

theorem parseM (s : List UInt8) : ∀ acc, s.all isDigit = true → acc ≤ 18446744073709551615 →
    parseUintM 18446744073709551615 acc s = if decv acc s ≤ 18446744073709551615 then .ok (decv acc s) else .range := by
  induction s with
  | nil => intro acc _ ha; rw [decv_nil, parseUintM, if_pos ha]
  | cons c s ih =>
    intro acc h ha
    simp only [List.all_cons, Bool.and_eq_true, isDigit, decide_eq_true_eq] at h
    obtain ⟨hc, hs⟩ := h
    have hl := le_decv (acc * 10 + (c.toNat - 48)) s
    rw [decv_cons]
    simp only [parseUintM]
    rw [if_pos hc]
    by_cases h1 : 1844674407370955162 ≤ acc
    · rw [if_pos h1, if_neg (by omega)]
    · rw [if_neg h1]
      by_cases h2 : 18446744073709551615 < acc * 10 + (c.toNat - 48)
      · rw [if_pos h2, if_neg (by omega)]
      · rw [if_neg h2]
        exact ih _ (by simpa [isDigit] using hs) (by omega)
theorem parse_formed {s : List UInt8} (h : formed s = true) : parseUintB 64 s = if decv 0 s ≤ 18446744073709551615 then .ok (decv 0 s) else .range := by
  unfold formed at h
  simp only [Bool.and_eq_true] at h
  unfold parseUintB
  rw [if_neg (by rintro rfl; simp at h)]
  exact parseM s 0 h.2 (by omega)

/-! a text of twenty digits against the greatest one -/
theorem decv_bound (s : List UInt8) : ∀ acc, s.all isDigit = true → acc * 10 ^ s.length ≤ decv acc s ∧ decv acc s < (acc + 1) * 10 ^ s.length := by
  induction s with
  | nil => intro acc _; simp [decv]
  | cons c s ih =>
    intro acc h
    simp only [List.all_cons, Bool.and_eq_true, isDigit, decide_eq_true_eq] at h
    have := ih (acc * 10 + (c.toNat - 48)) (by simpa [isDigit] using h.2)
    rw [decv_cons, List.length_cons, Nat.pow_succ]
    obtain ⟨a, b⟩ := this
    generalize 10 ^ s.length = p at a b ⊢
    constructor
    · refine Nat.le_trans ?_ a
      rw [Nat.add_mul, Nat.mul_comm p 10, ← Nat.mul_assoc]; omega
    · refine Nat.lt_of_lt_of_le b ?_
      have : (acc * 10 + (c.toNat - 48) + 1) ≤ (acc + 1) * 10 := by omega
      calc _ ≤ (acc + 1) * 10 * p := Nat.mul_le_mul_right p this
        _ = (acc + 1) * (p * 10) := by rw [Nat.mul_assoc, Nat.mul_comm 10 p]
theorem less_decv (a : List UInt8) : ∀ (b : List UInt8) (acc : Nat), a.length = b.length → a.all isDigit = true → b.all isDigit = true →
    (Go.Op.bytesLess a b = true ↔ decv acc a < decv acc b) := by
  induction a with
  | nil => intro b acc h _ _; cases b with | nil => simp [Go.Op.bytesLess, decv] | cons _ _ => cases h
  | cons c a ih =>
    intro b acc h ha hb
    cases b with
    | nil => cases h
    | cons d b =>
      simp only [List.all_cons, Bool.and_eq_true] at ha hb
      simp only [List.length_cons, Nat.add_right_cancel_iff] at h
      have hc := ha.1
      have hd := hb.1
      simp only [isDigit, Bool.and_eq_true, decide_eq_true_eq] at hc hd
      simp only [Go.Op.bytesLess, Bool.or_eq_true, decide_eq_true_eq, Bool.and_eq_true, beq_iff_eq, decv_cons]
      rcases Nat.lt_trichotomy c.toNat d.toNat with hlt | heq | hgt
      · have h1 := (decv_bound a (acc * 10 + (c.toNat - 48)) ha.2).2
        have h2 := (decv_bound b (acc * 10 + (d.toNat - 48)) hb.2).1
        rw [h] at h1
        have h3 : (acc * 10 + (c.toNat - 48) + 1) ≤ acc * 10 + (d.toNat - 48) := by omega
        have h4 := Nat.mul_le_mul_right (10 ^ b.length) h3
        constructor
        · intro _; omega
        · intro _; exact .inl (UInt8.lt_iff_toNat_lt.2 hlt)
      · have e : c = d := UInt8.toNat_inj.1 heq
        subst e
        rw [ih b _ h ha.2 hb.2]
        constructor
        · rintro (h | ⟨_, h⟩)
          · exact absurd h (by simp)
          · exact h
        · intro h; exact .inr ⟨rfl, h⟩
      · have h1 := (decv_bound b (acc * 10 + (d.toNat - 48)) hb.2).2
        have h2 := (decv_bound a (acc * 10 + (c.toNat - 48)) ha.2).1
        rw [h] at h2
        have h3 : (acc * 10 + (d.toNat - 48) + 1) ≤ acc * 10 + (c.toNat - 48) := by omega
        have h4 := Nat.mul_le_mul_right (10 ^ b.length) h3
        constructor
        · rintro (h | ⟨h, _⟩)
          · have := UInt8.lt_iff_toNat_lt.1 h; omega
          · subst h; omega
        · intro _; omega
end Lx
