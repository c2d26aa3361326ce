/- THE PLAIN LAW OF policy.Parse's WALK: what its calls of the library compute, by the words of the law. -/
import Derived.Test.YtnkhiaikdmpimaaGreatDoorParLawB
import Derived.Lib.CutLaws
import Derived.Lib.IndexLaws
import Derived.Lib.SlTrimSet
import Derived.Lib.SlBy
namespace Lx
open Go.Lib

theorem idx_split (c : UInt8) : ∀ s : List UInt8, (indexByte s c = -1 ∧ ∀ x ∈ s, x ≠ c) ∨ ∃ a t, s = a ++ c :: t ∧ indexByte s c = (a.length : Int) ∧ ∀ x ∈ a, x ≠ c
  | [] => .inl ⟨rfl, by simp⟩
  | b :: l => by
    by_cases h : b = c
    · subst h
      exact .inr ⟨[], l, rfl, by simp [indexByte], by simp⟩
    · have hb : (b == c) = false := by simpa using h
      rcases idx_split c l with ⟨h1, h2⟩ | ⟨a, t, rfl, h1, h2⟩
      · refine .inl ⟨by simp [indexByte, hb, h1], fun x hx => ?_⟩
        rcases List.mem_cons.1 hx with rfl | hx
        · exact h
        · exact h2 x hx
      · refine .inr ⟨b :: a, t, rfl, ?_, fun x hx => ?_⟩
        · have hne : (((a.length : Int)) == -1) = false := by simp
          simp only [indexByte, hb, h1, hne]
          simp
        · rcases List.mem_cons.1 hx with rfl | hx
          · exact h
          · exact h2 x hx
/-- a text at its first space -/
theorem sp_split (s : List UInt8) : (indexByte s 32 = -1 ∧ splitSp s = [s]) ∨ ∃ a t, s = a ++ 32 :: t ∧ indexByte s 32 = (a.length : Int) ∧ splitSp s = a :: splitSp t := by
  rcases idx_split 32 s with ⟨h1, h2⟩ | ⟨a, t, rfl, h1, h2⟩
  · exact .inl ⟨h1, splitSp_word s h2⟩
  · exact .inr ⟨a, t, rfl, h1, splitSp_cons a t h2⟩
theorem index_one (c : UInt8) : ∀ s : List UInt8, index s [c] = indexByte s c
  | [] => rfl
  | b :: l => by
    have hp : [c].isPrefixOf (b :: l) = (b == c) := by
      simp only [List.isPrefixOf, Bool.and_true]
      rw [Bool.eq_iff_iff]; simp only [beq_iff_eq]; exact ⟨fun h => h.symm, fun h => h.symm⟩
    simp only [index, indexByte, hp, index_one c l]
/-- strings.Cut at '=' -/
theorem cut_eq (s : List UInt8) : (cut s [61]).1 = (cutEq s).1 ∧ (cut s [61]).2.1 = (cutEq s).2 := by
  unfold cut
  rw [index_one]
  rcases idx_split 61 s with ⟨h1, h2⟩ | ⟨a, t, rfl, h1, h2⟩
  · rw [h1, if_neg (by decide)]
    unfold cutEq
    have e1 : s.takeWhile (· != 61) = s := by
      have := List.takeWhile_append_of_pos (p := (· != (61 : UInt8))) (l₁ := s) (l₂ := []) (fun c hc => by simpa using h2 c hc)
      simpa using this
    have e2 : s.dropWhile (· != 61) = [] := by
      have := List.dropWhile_append_of_pos (p := (· != (61 : UInt8))) (l₁ := s) (l₂ := []) (fun c hc => by simpa using h2 c hc)
      simpa using this
    rw [e1, e2]
    exact ⟨rfl, rfl⟩
  · rw [h1, if_pos (by omega), cutEq_word a t h2]
    constructor
    · simp
    · have : ((a.length : Int)).toNat + [(61 : UInt8)].length = (a ++ [61]).length := by simp
      rw [this, show a ++ 61 :: t = (a ++ [61]) ++ t by simp, List.drop_left]
theorem cutEq_len (s : List UInt8) : (cutEq s).1.length ≤ s.length ∧ (cutEq s).2.length ≤ s.length := by
  unfold cutEq
  have h1 := (List.takeWhile_sublist (p := (· != (61 : UInt8))) (l := s)).length_le
  have h2 := (List.dropWhile_sublist (p := (· != (61 : UInt8))) (l := s)).length_le
  exact ⟨h1, by rw [List.length_tail]; omega⟩

abbrev v_digits : List UInt8 := [48, 49, 50, 51, 52, 53, 54, 55, 56, 57]
theorem digits_has_fin : ∀ n : Fin 256, v_digits.contains (UInt8.ofNat n.val) = isDigit (UInt8.ofNat n.val) := by decide +kernel
theorem digits_has (c : UInt8) : v_digits.contains c = isDigit c := by
  have h := digits_has_fin ⟨c.toNat, c.toNat_lt⟩
  simpa using h
theorem dw_nil (p : UInt8 → Bool) : ∀ l : List UInt8, l.dropWhile p = [] ↔ ∀ x ∈ l, p x = true
  | [] => by simp
  | b :: l => by
    rw [List.dropWhile_cons]
    by_cases h : p b = true
    · simp [h, dw_nil p l]
    · simp [h]
theorem trim_nil (l cs : List UInt8) : trimS l cs = [] ↔ l.all (cs.contains ·) = true := by
  unfold trimS trimLeftS trimRightS
  constructor
  · intro h
    rw [List.all_eq_true]
    intro x hx
    by_cases hr : l.reverse.dropWhile (cs.contains ·) = []
    · have := ((dw_nil _ _).1 hr) x (by simpa using hx)
      exact this
    · exfalso
      have h1 := (dw_nil _ _).1 h
      have hd := List.head_dropWhile_not (cs.contains ·) (w := hr)
      have hm := h1 ((l.reverse.dropWhile (cs.contains ·)).head hr) (by simp)
      rw [hm] at hd
      cases hd
  · intro h
    rw [List.all_eq_true] at h
    have : l.reverse.dropWhile (cs.contains ·) = [] := (dw_nil _ _).2 (fun x hx => h x (by simpa using hx))
    rw [this]
    rfl
theorem trim_digits (l : List UInt8) : trimS l v_digits = [] ↔ l.all isDigit = true := by
  rw [trim_nil]
  have : (v_digits.contains ·) = isDigit := funext digits_has
  rw [this]

/-- the words of a policy, one after another -/
theorem foldlM_none {α σ : Type} (f : σ → α → Option σ) (a b : List α) (s : σ) (h : a.foldlM f s = none) : (a ++ b).foldlM f s = none := by
  rw [List.foldlM_append, h]; rfl
theorem foldlM_snoc {α σ : Type} (f : σ → α → Option σ) (a : List α) (x : α) (s t : σ) (h : a.foldlM f s = some t) : (a ++ [x]).foldlM f s = f t x := by
  rw [List.foldlM_append, h]
  simp
theorem findName_ge {i j : Nat} {nm : List UInt8} (h : findName i nm = some j) : i ≤ j ∧ j < 5 ∧ polNames[j]? = some nm := by
  unfold findName at h
  have h1 := List.find?_some h
  have h2 := List.mem_of_find?_eq_some h
  have h3 : polNames[j]? = some nm := by simpa using h1
  obtain ⟨k, hk, e⟩ := List.mem_iff_getElem.1 h2
  rw [List.getElem_drop, List.getElem_range] at e
  rw [List.length_drop, List.length_range] at hk
  exact ⟨by omega, by omega, h3⟩
/-- what slices.IndexFunc hands back, over the parts that are left -/
theorem findName_hit (i k : Nat) (nm : List UInt8) (hk : i + k < 5) (h : polNames[i + k]? = some nm) (hne : ∀ j, j < k → polNames[i + j]? ≠ some nm) : findName i nm = some (i + k) := by
  unfold findName
  rw [List.find?_eq_some_iff_getElem]
  refine ⟨by simpa using h, k, by simp; omega, by simp, fun j hj => ?_⟩
  rw [List.getElem_drop, List.getElem_range]
  simpa using hne j hj
theorem findName_miss (i : Nat) (nm : List UInt8) (hne : ∀ j, j < 5 - i → polNames[i + j]? ≠ some nm) : findName i nm = none := by
  unfold findName
  rw [List.find?_eq_none]
  intro x hx
  obtain ⟨k, hk, e⟩ := List.mem_iff_getElem.1 hx
  rw [List.getElem_drop, List.getElem_range] at e
  rw [List.length_drop, List.length_range] at hk
  subst e
  simpa using hne k (by omega)
/-- the number that slices.IndexFunc hands back -/
def findI (i : Nat) (nm : List UInt8) : Int := match findName i nm with
  | none => -1
  | some j => ((j - i : Nat) : Int)
theorem cntP_lt (s : List UInt8) : cntP s < 10000 := by
  unfold cntP
  split
  · rename_i h
    simp only [Bool.and_eq_true, decide_eq_true_eq] at h
    have h1 := (decv_bound s 0 h.1.2).2
    have h2 : 10 ^ s.length ≤ 10 ^ 4 := Nat.pow_le_pow_right (by decide) h.1.1
    omega
  · decide

theorem splitSp_len : ∀ (n : Nat) (s : List UInt8), s.length ≤ n → ∀ x ∈ splitSp s, x.length ≤ s.length
  | 0, s, h, x, hx => by
    have : s = [] := List.eq_nil_of_length_eq_zero (by omega)
    subst this
    have : x = [] := by simpa [splitSp] using hx
    subst this
    exact Nat.le_refl _
  | n + 1, s, h, x, hx => by
    rcases sp_split s with ⟨_, h2⟩ | ⟨a, t, rfl, _, h2⟩
    · rw [h2] at hx
      have : x = s := by simpa using hx
      rw [this]
      exact Nat.le_refl _
    · rw [h2] at hx
      have hl : (a ++ 32 :: t).length = a.length + (t.length + 1) := by simp
      rcases List.mem_cons.1 hx with rfl | hx
      · omega
      · have := splitSp_len n t (by omega) x hx
        omega
theorem splitSp_pre {s x : List UInt8} {pre : List (List UInt8)} (h : pre ++ [x] <+: splitSp s) : x.length ≤ s.length :=
  splitSp_len _ s (Nat.le_refl _) x (h.subset (by simp))

/-! how many words a line has, and how long they are -/
theorem costs_ge (l : List W) : l.length ≤ costs l := by
  induction l with
  | nil => exact Nat.zero_le _
  | cons x l ih => simp only [List.length_cons, costs, cost]; omega
theorem words_count {s : List UInt8} {r : List W} (h : splitB s = some r) : r.length ≤ 4 * s.length := by
  have h1 := splitFrom_costs (Nat.le_refl _) (show splitFrom [] s = some r from h)
  have h2 := costs_ge r
  simp only [costs] at h1
  omega
theorem esc_ge (s : List UInt8) : s.length ≤ (s.flatMap escByte).length := by
  induction s with
  | nil => exact Nat.zero_le _
  | cons c s ih =>
    have : 1 ≤ (escByte c).length := by
      unfold escByte
      split
      · decide
      · split
        · simp
        · split
          · simp
          · simp
    simp only [List.flatMap_cons, List.length_append, List.length_cons]; omega
theorem quote_ge (s : List UInt8) : s.length ≤ (quoteB s).length := by
  unfold quoteB; split
  · exact Nat.le_refl _
  · simp only [List.length_cons, List.length_append, List.length_nil]; have := esc_ge s; omega
theorem words_len {s : List UInt8} {r : List W} (h : splitB s = some r) : ∀ x ∈ r, x.s.length ≤ 4 * s.length := by
  have h1 := splitFrom_costs (Nat.le_refl _) (show splitFrom [] s = some r from h)
  simp only [costs] at h1
  intro y hy
  have h2 : cost y ≤ costs r := by
    clear h1 h
    induction r with
    | nil => cases hy
    | cons z r ih =>
      rcases List.mem_cons.1 hy with rfl | hy
      · simp only [costs]; omega
      · have := ih hy; simp only [costs]; omega
  have h3 : y.s.length ≤ (quoteB y.s).length := quote_ge y.s
  simp only [cost] at h2
  omega
end Lx
