/- THE PLAIN LAW OF command.Text: a policy and a command as lines of words, by joining and by adding. -/
import Derived.Test.YtnkhiaikdmpimaaGreatDoorCmdPlain
import Derived.Lib.ItoaNum
import Derived.Lib.Join
namespace Lx
open Go.Lib

abbrev v_other : List UInt8 := [111, 116, 104, 101, 114]
abbrev v_from : List UInt8 := [102, 114, 111, 109]
abbrev v_none : List UInt8 := [110, 111, 110, 101]
abbrev n_last : List UInt8 := [108, 97, 115, 116]
abbrev n_hours : List UInt8 := [104, 111, 117, 114, 115]
abbrev n_days : List UInt8 := [100, 97, 121, 115]
abbrev n_weeks : List UInt8 := [119, 101, 101, 107, 115]
abbrev n_months : List UInt8 := [109, 111, 110, 116, 104, 115]
def polNames : List (List UInt8) := [n_last, n_hours, n_days, n_weeks, n_months]
def Pol.nums (k : Pol) : List Int := [k.last, k.hours, k.days, k.weeks, k.months]
def Pol.pairs (k : Pol) : List (List UInt8 × Int) := polNames.zip k.nums
def polWord (x : List UInt8 × Int) : List UInt8 := x.1 ++ 61 :: itoa x.2
def polWords (l : List (List UInt8 × Int)) : List (List UInt8) := (l.filter fun x => decide (0 < x.2)).map polWord
def joinSp (l : List (List UInt8)) : List UInt8 := join l [32]
theorem joinSp_snoc : ∀ (l : List (List UInt8)) (s : List UInt8), l ≠ [] → joinSp (l ++ [s]) = joinSp l ++ 32 :: s
  | [], _, h => absurd rfl h
  | x :: r, s, _ => by
    unfold joinSp
    rw [List.cons_append, join_cons, join_cons, joinTail, joinTail, List.map_append, List.flatten_append]
    simp
theorem joinSp_one (s : List UInt8) : joinSp [s] = s := join_one _ _
theorem joinSp_len (l : List (List UInt8)) (n : Nat) (h : ∀ s ∈ l, s.length ≤ n) : (joinSp l).length ≤ l.length * (n + 1) := by
  cases l with
  | nil => simp [joinSp, join_nil]
  | cons x r =>
    unfold joinSp
    rw [join_cons, List.length_append, joinTail]
    have h1 : ((r.map ([32] ++ ·)).flatten).length ≤ r.length * (n + 1) := by
      have : ∀ s ∈ r, s.length ≤ n := fun s hs => h s (by simp [hs])
      clear h
      induction r with
      | nil => simp
      | cons y r ih =>
        have := ih (fun s hs => this s (by simp [hs]))
        have hy := this
        have h2 : y.length ≤ n := by rename_i h0; exact h0 y (by simp)
        simp only [List.map_cons, List.flatten_cons, List.length_append, List.length_cons, List.length_nil, Nat.add_mul]
        omega
    have := h x (by simp)
    simp only [List.length_cons, Nat.add_mul]
    omega
theorem joinSp_nil_iff (l : List (List UInt8)) (h : ∀ s ∈ l, s ≠ []) : joinSp l = [] ↔ l = [] := by
  constructor
  · intro e
    cases l with
    | nil => rfl
    | cons x r =>
      unfold joinSp at e
      rw [join_cons] at e
      exact absurd (List.append_eq_nil_iff.1 e).1 (h x (by simp))
  · rintro rfl; rfl
def polText (k : Pol) : List UInt8 := if polWords k.pairs = [] then v_none else joinSp (polWords k.pairs)
theorem polWord_ne (x : List UInt8 × Int) : polWord x ≠ [] := by
  unfold polWord; intro h
  have := (List.append_eq_nil_iff.1 h).2; cases this
theorem polWords_ne (l : List (List UInt8 × Int)) : ∀ s ∈ polWords l, s ≠ [] := by
  intro s hs
  obtain ⟨x, _, rfl⟩ := List.mem_map.1 hs
  exact polWord_ne x
/-- a word that is added to a text of words -/
theorem polWords_snoc (l : List (List UInt8 × Int)) (x : List UInt8 × Int) :
    joinSp (polWords (l ++ [x])) = if 0 < x.2 then (if joinSp (polWords l) = [] then polWord x else joinSp (polWords l) ++ 32 :: polWord x) else joinSp (polWords l) := by
  have hn := joinSp_nil_iff (polWords l) (polWords_ne l)
  unfold polWords at hn ⊢
  rw [List.filter_append, List.map_append]
  by_cases hx : 0 < x.2
  · rw [if_pos hx, List.filter_cons, if_pos (by simpa using hx)]
    simp only [List.filter_nil, List.map_cons, List.map_nil]
    by_cases h0 : joinSp ((l.filter fun x => decide (0 < x.2)).map polWord) = []
    · rw [if_pos h0, hn.1 h0]; exact joinSp_one _
    · rw [if_neg h0, joinSp_snoc _ _ (fun e => h0 (hn.2 e))]
  · rw [if_neg hx, List.filter_cons, if_neg (by simpa using hx)]
    simp

/-! numbers -/
theorem decDigits_pos (u : Nat) : (decDigits u).length ≤ 20 ↔ nDigits u ≤ 20 := by rw [decDigits_length]
theorem nDigits_le : ∀ (k u : Nat), u < 10 ^ k → 1 ≤ k → nDigits u ≤ k
  | 0, u, _, h => absurd h (by decide)
  | 1, u, h, _ => by rw [nDigits_small (by simpa using h)]; exact Nat.le_refl _
  | k + 2, u, h, _ => by
    by_cases hu : u < 10
    · rw [nDigits_small hu]; omega
    · rw [nDigits_big hu]
      have := nDigits_le (k + 1) (u / 10) (by rw [Nat.pow_succ] at h; omega) (by omega)
      omega
theorem itoa_len (n : Int) (h : 0 ≤ n) (h1 : n < 100000000000000000000) : (itoa n).length ≤ 20 := by
  unfold itoa
  rw [if_neg (by omega), decDigits_length]
  exact nDigits_le 20 _ (by omega) (by decide)
theorem itoa_nat (m : Nat) : itoa m = decDigits m := by unfold itoa; rw [if_neg (by omega)]; rfl

/-! a command -/
def wordP (c : Cmd) : Nat → List UInt8
  | 0 => quoteB c.set | 1 => quoteB c.snap | 2 => quoteB c.other | 3 => itoa c.cell | 4 => quoteB c.text | 5 => itoa c.now
  | 6 => quoteB (polText c.keep) | 7 => [64] | _ => v_from
def headP (c : Cmd) : List (List UInt8) := if c.second then [v_other, c.verb] else [c.verb]
def textB (c : Cmd) : List UInt8 × Int := match rowOfP c with | some r => (joinSp (headP c ++ r.map (wordP c)), 0) | none => ([], 1)
end Lx
