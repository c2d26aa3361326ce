/- THE PLAIN LAW OF command.Parse: there and back. -/
import Derived.Test.YtnkhiaikdmpimaaGreatDoorParPlain
import Derived.Test.YtnkhiaikdmpimaaGreatDoorLexPlain
namespace Lx
open Go.Lib

/-! numerals -/
def dgt (m : Nat) : UInt8 := UInt8.ofNat (48 + m % 10)
theorem dgt_nat (m : Nat) : (dgt m).toNat = 48 + m % 10 := by
  unfold dgt; rw [UInt8.toNat_ofNat']; omega
theorem dec_ind (P : Nat → List UInt8 → Prop) (h1 : ∀ m, m < 10 → P m [dgt m]) (h2 : ∀ m l, 10 ≤ m → P (m / 10) l → P m (l ++ [dgt m])) : ∀ m, P m (decDigits m) := by
  intro m
  induction m using Nat.strongRecOn with
  | _ m ih =>
    by_cases h : m < 10
    · rw [decDigits, dif_pos h]
      have := h1 m h
      unfold dgt at this
      rwa [Nat.mod_eq_of_lt h] at this
    · rw [decDigits, dif_neg h]
      exact h2 m _ (by omega) (ih (m / 10) (by omega))
theorem decv_append (acc : Nat) (l : List UInt8) (c : UInt8) : decv acc (l ++ [c]) = decv acc l * 10 + (c.toNat - 48) := by
  unfold decv
  rw [List.foldl_append, List.foldl_cons, List.foldl_nil, dstep_eq]
theorem decv_dec (m : Nat) : decv 0 (decDigits m) = m := by
  refine dec_ind (fun m l => decv 0 l = m) ?_ ?_ m
  · intro m h
    rw [decv_cons, decv_nil, dgt_nat]; omega
  · intro m l h ih
    rw [decv_append, ih, dgt_nat]; omega
theorem dec_digits (m : Nat) : (decDigits m).all isDigit = true := by
  have hd : ∀ m, isDigit (dgt m) = true := by
    intro m; unfold isDigit; rw [dgt_nat]; simp; omega
  refine dec_ind (fun _ l => l.all isDigit = true) ?_ ?_ m
  · intro m _; simp [hd]
  · intro m l _ ih; rw [List.all_append, ih]; simp [hd]
theorem dec_ne (m : Nat) : decDigits m ≠ [] := by
  refine dec_ind (fun _ l => l ≠ []) (fun m _ => by simp) (fun m l _ ih => by simp) m
theorem dec_head (m : Nat) : 0 < m → (decDigits m).head? ≠ some 48 := by
  have h := dec_ind (fun m l => l ≠ [] ∧ (0 < m → l.head? ≠ some 48)) (fun m h => ⟨by simp, fun h0 e => by
    simp only [List.head?_cons, Option.some.injEq] at e
    have := congrArg UInt8.toNat e
    rw [dgt_nat] at this
    have h48 : (48 : UInt8).toNat = 48 := rfl
    omega⟩) (fun m l h ih => ⟨by simp, fun _ e => by
    cases l with
    | nil => exact ih.1 rfl
    | cons x r => exact ih.2 (by omega) (by simpa using e)⟩) m
  exact h.2
theorem number_dec (m : Nat) (h : m < 18446744073709551616) : number (decDigits m) = (m, 0) := by
  have hl : (decDigits m).length ≤ 20 := by
    rw [decDigits_length]; exact nDigits_le 20 m (by omega) (by decide)
  have hf : formed (decDigits m) = true := by
    unfold formed
    rw [dec_digits, decide_eq_true hl]
    have h1 : (decDigits m).isEmpty = false := by
      cases hd : decDigits m with
      | nil => exact absurd hd (dec_ne m)
      | cons => rfl
    rw [h1]
    by_cases h0 : m = 0
    · subst h0; decide +kernel
    · have := dec_head m (by omega)
      have h2 : ((decDigits m).head? != some 48) = true := by simpa using this
      rw [h2]; rfl
  unfold number
  rw [if_pos hf, decv_dec, if_pos h]
theorem bare_digit {c : UInt8} (h : isDigit c = true) : bareB c = true ∧ c ≠ 35 := by
  unfold isDigit at h
  simp only [Bool.and_eq_true, decide_eq_true_eq] at h
  have hx : ∀ n : Fin 256, 48 ≤ n.val → n.val ≤ 57 → bareB (UInt8.ofNat n.val) = true ∧ UInt8.ofNat n.val ≠ 35 := by decide +kernel
  have := hx ⟨c.toNat, c.toNat_lt⟩ h.1 h.2
  rwa [UInt8.ofNat_toNat] at this
theorem bare_dec (m : Nat) : bareWord (decDigits m) = true := by
  rw [bareWord_iff]
  have hd := dec_digits m
  rw [List.all_eq_true] at hd
  refine ⟨dec_ne m, ?_, fun c hc => (bare_digit (hd c hc)).1⟩
  intro e
  have hmem : (35 : UInt8) ∈ decDigits m := List.mem_of_mem_head? e
  exact (bare_digit (hd _ hmem)).2 rfl
theorem quote_bare {s : List UInt8} (h : bareWord s = true) : quoteB s = s := by unfold quoteB; rw [if_pos h]

/-! words of a line -/
def rawP (c : Cmd) : Nat → List UInt8
  | 0 => c.set | 1 => c.snap | 2 => c.other | 3 => itoa c.cell | 4 => c.text | 5 => itoa c.now | 6 => polText c.keep | 7 => [64] | _ => v_from
theorem joinSp_quote : ∀ ss : List (List UInt8), joinSp (ss.map quoteB) = joinB ss
  | [] => rfl
  | [s] => joinSp_one _
  | s :: t :: l => by
    have ih := joinSp_quote (t :: l)
    simp only [List.map_cons] at ih ⊢
    rw [joinB, ← ih]
    unfold joinSp
    simp only [join, List.intercalate, List.intersperse, List.flatten_cons]
    rfl
theorem itoa_dec {n : Int} (h : 0 ≤ n) : itoa n = decDigits n.toNat := by unfold itoa; rw [if_neg (by omega)]
theorem wordP_quote (c : Cmd) (hc : 0 ≤ c.cell) (hn : 0 ≤ c.now) (p : Nat) : wordP c p = quoteB (rawP c p) := by
  match p with
  | 0 => rfl
  | 1 => rfl
  | 2 => rfl
  | 3 => show itoa c.cell = quoteB (itoa c.cell); rw [itoa_dec hc, quote_bare (bare_dec _)]
  | 4 => rfl
  | 5 => show itoa c.now = quoteB (itoa c.now); rw [itoa_dec hn, quote_bare (bare_dec _)]
  | 6 => rfl
  | 7 => show [64] = quoteB [64]; decide +kernel
  | (n + 8) => show v_from = quoteB v_from; decide +kernel
def verbs0 : List (List UInt8) := [v_create, v_drop, v_write, v_trim, v_read, v_snap, v_destroy, v_rollback, v_hold, v_release, v_clone, v_send, v_scrub, v_heal, v_list, v_losses, v_keep, v_auto]
theorem rowsP_nil {v : List UInt8} (h : v ∉ verbs0) : rowsP v = [] := by
  simp only [verbs0, List.mem_cons, List.not_mem_nil, or_false, not_or] at h
  obtain ⟨h1, h2, h3, h4, h5, h6, h7, h8, h9, h10, h11, h12, h13, h14, h15, h16, h17, h18⟩ := h
  unfold rowsP
  rw [if_neg h1, if_neg h2, if_neg h3, if_neg h4, if_neg h5, if_neg h6, if_neg h7, if_neg h8, if_neg h9, if_neg h10, if_neg h11, if_neg h12, if_neg h13, if_neg h14, if_neg h15, if_neg h16, if_neg h17, if_neg h18]
theorem verbs0_bare : ∀ v ∈ verbs0, bareWord v = true ∧ v ≠ v_other := by decide +kernel
theorem rowOf_mem {c : Cmd} {r : List Nat} (h : rowOfP c = some r) : r ∈ rowsP c.verb ∧ fitsP c r = true := by
  unfold rowOfP at h
  exact ⟨List.mem_of_find?_eq_some h, List.find?_some h⟩
theorem rowOf_verb {c : Cmd} {r : List Nat} (h : rowOfP c = some r) : c.verb ∈ verbs0 := by
  by_cases hv : c.verb ∈ verbs0
  · exact hv
  · have := (rowOf_mem h).1
    rw [rowsP_nil hv] at this
    cases this
def headR (c : Cmd) : List (List UInt8) := if c.second then [v_other, c.verb] else [c.verb]
theorem text_join {c : Cmd} {r : List Nat} (h : rowOfP c = some r) (hn : 0 ≤ c.now) : (textB c).1 = joinB (headR c ++ r.map (rawP c)) := by
  have hf := (rowOf_mem h).2
  have hc : 0 ≤ c.cell := by
    unfold fitsP at hf
    simp only [Bool.and_eq_true, decide_eq_true_eq] at hf
    exact hf.1.1.2.1.1
  have hv := (verbs0_bare _ (rowOf_verb h)).1
  have hh : headP c = (headR c).map quoteB := by
    unfold headP headR
    cases c.second
    · simp [quote_bare hv]
    · simp only [if_true, List.map_cons, List.map_nil, quote_bare hv]
      rw [show quoteB v_other = v_other from by decide +kernel]
  unfold textB
  rw [h, hh]
  simp only
  rw [show r.map (wordP c) = (r.map (rawP c)).map quoteB from by rw [List.map_map]; exact List.map_congr_left (fun p _ => wordP_quote c hc hn p), ← List.map_append, joinSp_quote]
end Lx
