/- THE REFERENCE'S Split. -/
import Derived.Test.YtnkhiaikdmpimaaGreatDoorLexH
import Derived.Deep.CutBlock
namespace Go.Proofs.YtnkhiaikdmpimaaGreatDoor
open Go.RowKit Lx

theorem word_part {p u : List UInt8} (h : p.all bareB = true) : wordOf (p ++ u) = p ++ wordOf u ∧ behindOf (p ++ u) = behindOf u := by
  induction p with
  | nil => exact ⟨rfl, rfl⟩
  | cons c p ih =>
    simp only [List.all_cons, Bool.and_eq_true] at h
    have hb := bare_not_blank h.1
    have := ih h.2
    unfold wordOf behindOf at this ⊢
    simp [hb, this]
theorem word_stop {u : List UInt8} (h : u = [] ∨ ∃ d t, u = d :: t ∧ blankB d = true) : wordOf u = [] ∧ behindOf u = u := by
  rcases h with rfl | ⟨d, t, rfl, hd⟩
  · exact ⟨rfl, rfl⟩
  · unfold wordOf behindOf; simp [hd]
/-- one word more of a line -/
theorem split_word {ws : List W} {c : UInt8} {r p u : List UInt8} (hc : blankB c = false) (h35 : c ≠ 35) (h34 : c ≠ 34) (hpu : c :: r = p ++ u) (hp : p.all bareB = true)
    (hu : u = [] ∨ ∃ d t, u = d :: t ∧ blankB d = true) : splitFrom ws (c :: r) = splitFrom (ws ++ [⟨p, false⟩]) u := by
  have ht : trimL (c :: r) = c :: r := by unfold trimL; rw [List.dropWhile_cons, if_neg (by rw [hc]; decide)]
  rw [splitFrom_eq, ht]
  simp only
  rw [if_neg h35, if_neg h34, hpu]
  obtain ⟨h1, h2⟩ := word_part (u := u) hp
  obtain ⟨h3, h4⟩ := word_stop hu
  rw [h1, h2, h3, h4, List.append_nil]
  have hne : p ≠ [] := by
    rintro rfl
    rcases hu with rfl | ⟨d, t, rfl, hd⟩
    · cases hpu
    · simp only [List.nil_append, List.cons.injEq] at hpu
      rw [hpu.1, hd] at hc; cases hc
  have hb : bareWord p = true := by
    rw [bareWord_iff]
    refine ⟨hne, ?_, fun d hd => by rw [List.all_eq_true] at hp; exact hp d hd⟩
    cases p with
    | nil => exact absurd rfl hne
    | cons d p =>
      simp only [List.cons_append, List.cons.injEq] at hpu
      rw [List.head?_cons, ← hpu.1]
      simpa using h35
  rw [if_pos hb]
theorem split_wrong {ws : List W} {c d : UInt8} {r p u : List UInt8} (hc : blankB c = false) (h35 : c ≠ 35) (h34 : c ≠ 34) (hpu : c :: r = p ++ d :: u) (hp : p.all bareB = true)
    (hd : blankB d = false) (hn : bareB d = false) : splitFrom ws (c :: r) = none := by
  have ht : trimL (c :: r) = c :: r := by unfold trimL; rw [List.dropWhile_cons, if_neg (by rw [hc]; decide)]
  rw [splitFrom_eq, ht]
  simp only
  rw [if_neg h35, if_neg h34, hpu]
  have hb : bareWord (wordOf (p ++ d :: u)) = false := by
    rw [(word_part (u := d :: u) hp).1]
    have : wordOf (d :: u) = d :: wordOf u := by unfold wordOf; simp [hd]
    rw [this, ← Bool.not_eq_true, bareWord_iff]
    rintro ⟨_, _, h⟩
    have := h d (by simp)
    rw [hn] at this; cases this
  rw [if_neg (by rw [hb]; decide)]
theorem split_quoted {ws : List W} {r : List UInt8} : splitFrom ws (34 :: r) = match qscan [] r with
    | some (w, t) => splitFrom (ws ++ [⟨w, true⟩]) t
    | none => none := by
  have ht : trimL (34 :: r) = 34 :: r := by unfold trimL; rw [List.dropWhile_cons, if_neg (by decide)]
  rw [splitFrom_eq, ht]
  simp only
  rw [if_neg (by decide)]
  first | rw [if_pos rfl] | rw [if_pos trivial]
  rfl
theorem split_comment {ws : List W} {r : List UInt8} : splitFrom ws (35 :: r) = some ws := by
  have ht : trimL (35 :: r) = 35 :: r := by unfold trimL; rw [List.dropWhile_cons, if_neg (by decide)]
  rw [splitFrom_eq, ht]
  simp only
  first | rw [if_pos rfl] | rw [if_pos trivial]

end Go.Proofs.YtnkhiaikdmpimaaGreatDoor
