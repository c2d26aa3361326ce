/- row.has, isName, isNumber, isPolicy. -/
import Derived.Test.YtnkhiaikdmpimaaGreatDoorCmdF
namespace Go.Proofs.YtnkhiaikdmpimaaGreatDoor
open Go.RowKit Lx

/-- a row in memory -/
def RowAt (w : World) (v : Value) (r : List Nat) : Prop := ∃ a cap, v = .slice a r.length cap ∧ ∀ k (h : k < r.length), ∃ ad, a = some ad ∧ w.cell? (ad.add k) = some (.int .u8 r[k])
theorem RowAt.below {w w' : World} {v : Value} {r : List Nat} (h : RowAt w v r) (hb : Below w.heap.size w w') : RowAt w' v r := by
  obtain ⟨a, cap, hv, hc⟩ := h
  refine ⟨a, cap, hv, fun k hk => ?_⟩
  obtain ⟨ad, ha, hcell⟩ := hc k hk
  exact ⟨ad, ha, kept_one hcell hb⟩
theorem RowAt.drewN {w : World} {v : Value} {r : List Nat} (h : RowAt w v r) (n : Nat) : RowAt (w.drewN n) v r := h

set_option maxHeartbeats 1000000 in
theorem has_any (v : Value) (r : List Nat) (p : Nat) (w : World) (h : RowAt w v r) (hl : r.length ≤ 1000) :
    Calls Tryz.prog 44 #[v, .int .u8 p] w fun e w' => e = .returned (.bool (hasP r p)) ∧ w = w' := by
  obtain ⟨a, cap, rfl, hc⟩ := h
  have HC := Lib.hid hc
  clear hc
  go_enter Tryz.func44, Tryz.ntmps44
  go_wp2_with fail
  go_loopg [9] r.length (fun g i wr => ∃ k : Nat, g = r.length - k ∧ k ≤ r.length ∧ i = .int .i64 k ∧ (r.take k).any (· == p) = false ∧ wr = w)
  case atStart => exact ⟨0, rfl, Nat.zero_le _, rfl, rfl, rfl⟩
  case round =>
    obtain ⟨k, hg, hk, rfl, hall, rfl⟩ := hrel
    have HA := Lib.hid hall
    clear hall
    by_cases hlt : k < r.length
    · have hki : (k : Int) < (r.length : Int) := by omega
      obtain ⟨ad, rfl, hcell⟩ := HC.out k hlt
      have HS : Hid ((r.take (k + 1)).any (· == p) = ((r.take k).any (· == p) || r[k] == p)) := Lib.hid (by
        rw [List.take_succ_eq_append_getElem hlt, List.any_append]; simp only [List.any_cons, List.any_nil, Bool.or_false])
      have HM : Hid (r[k] ∈ r) := Lib.hid (List.getElem_mem _)
      generalize r[k] = q at *
      by_cases hc : q = p
      · subst hc
        have HY : Hid (hasP r q = true) := Lib.hid (List.any_eq_true.2 ⟨q, HM.out, by simp⟩)
        go_wp2_with fail
        go_ret
        rw [HY.out]
        exact ⟨rfl, rfl⟩
      · have hg2 : ((q : Int) == (p : Int)) = false := by simp only [beq_eq_false_iff_ne, ne_eq]; omega
        have HB : Hid ((q == p) = false) := Lib.hid (by simpa using hc)
        clear hc
        go_wp2_with fail
        go_roundg (r.length - (k + 1))
        case measure => omega
        case rel => exact ⟨k + 1, rfl, hlt, by go_num, by rw [HS.out, HA.out, HB.out]; rfl, rfl⟩
    · have hki : ¬ (k : Int) < (r.length : Int) := by omega
      have HF : Hid (hasP r p = false) := Lib.hid (by have := HA.out; rwa [List.take_of_length_le (by omega)] at this)
      clear HA
      go_wp2_with fail
      go_ret
      rw [HF.out]
      exact ⟨rfl, rfl⟩

theorem isName_any (s : List UInt8) (is : Bool) (w : World) :
    Calls Tryz.prog 43 #[.string ⟨s.toArray⟩, .bool is] w fun e w' => e = .returned (.bool (nameB s is)) ∧ w = w' := by
  cases is with
  | true =>
    by_cases h1 : 1 ≤ s.length
    · obtain ⟨x, l, rfl⟩ : ∃ x l, s = x :: l := by cases s with | nil => simp at h1 | cons x l => exact ⟨x, l, rfl⟩
      by_cases h2 : (x :: l).length ≤ 12
      · have h2i : (l.length : Int) + 1 ≤ 12 := by simp only [List.length_cons] at h2; omega
        have hn : nameB (x :: l) true = true := by unfold nameB; rw [if_pos rfl, decide_eq_true h1, decide_eq_true h2]; rfl
        rw [hn]; clear hn h1 h2
        go_enter Tryz.func43, Tryz.ntmps43
        go_wp2_with fail
        go_ret
        exact ⟨rfl, rfl⟩
      · have h2i : decide ((l.length : Int) + 1 ≤ 12) = false := by simp only [List.length_cons] at h2; simp; omega
        have hn : nameB (x :: l) true = false := by unfold nameB; rw [if_pos rfl, decide_eq_false h2, Bool.and_false]
        rw [hn]; clear hn h1 h2
        go_enter Tryz.func43, Tryz.ntmps43
        go_wp2_with fail
        go_ret
        exact ⟨rfl, rfl⟩
    · obtain rfl : s = [] := List.eq_nil_of_length_eq_zero (by omega)
      go_enter Tryz.func43, Tryz.ntmps43
      go_wp2_with fail
      go_ret
      exact ⟨rfl, rfl⟩
  | false =>
    cases s with
    | nil =>
      go_enter Tryz.func43, Tryz.ntmps43
      go_wp2_with fail
      go_ret
      exact ⟨rfl, rfl⟩
    | cons c r =>
      go_enter Tryz.func43, Tryz.ntmps43
      go_wp2_with fail
      go_ret
      exact ⟨rfl, rfl⟩
theorem isNumber_any (n : Int) (w : World) :
    Calls Tryz.prog 63 #[.int .i64 n] w fun e w' => e = .returned (.bool (numB n)) ∧ w = w' := by
  unfold numB
  by_cases h1 : 0 ≤ n
  · by_cases h2 : n ≤ 9999
    · rw [decide_eq_true h1, decide_eq_true h2]
      go_enter Tryz.func63, Tryz.ntmps63
      go_wp2_with fail
      go_ret
      exact ⟨rfl, rfl⟩
    · rw [decide_eq_true h1, decide_eq_false h2]
      have h2' : decide (n ≤ 9999) = false := decide_eq_false h2
      go_enter Tryz.func63, Tryz.ntmps63
      go_wp2_with fail
      go_ret
      exact ⟨rfl, rfl⟩
  · rw [decide_eq_false h1]
    have h1' : decide (0 ≤ n) = false := decide_eq_false h1
    go_enter Tryz.func63, Tryz.ntmps63
    go_wp2_with fail
    go_ret
    exact ⟨rfl, rfl⟩

set_option maxHeartbeats 1000000 in
set_option maxRecDepth 100000 in
theorem isPolicy_any (k1 k2 k3 k4 k5 : Int) (w : World) :
    Calls Tryz.prog 45 #[.agg #[.int .i64 k1, .int .i64 k2, .int .i64 k3, .int .i64 k4, .int .i64 k5]] w fun e w' => e = .returned (.bool (polB ⟨k1, k2, k3, k4, k5⟩)) ∧ Below w.heap.size w w' := by
  have M1 := Lib.hid (fun w => isNumber_any k1 w); have M2 := Lib.hid (fun w => isNumber_any k2 w); have M3 := Lib.hid (fun w => isNumber_any k3 w)
  have M4 := Lib.hid (fun w => isNumber_any k4 w); have M5 := Lib.hid (fun w => isNumber_any k5 w)
  have HP : Hid (polB ⟨k1, k2, k3, k4, k5⟩ = (numB k1 && numB k2 && numB k3 && numB k4 && numB k5)) := Lib.hid rfl
  generalize polB ⟨k1, k2, k3, k4, k5⟩ = pb at *
  generalize numB k1 = m1 at *; generalize numB k2 = m2 at *; generalize numB k3 = m3 at *; generalize numB k4 = m4 at *; generalize numB k5 = m5 at *
  obtain rfl | ⟨rfl, rfl⟩ | ⟨rfl, rfl, rfl⟩ | ⟨rfl, rfl, rfl, rfl⟩ | ⟨rfl, rfl, rfl, rfl⟩ : m1 = false ∨ (m1 = true ∧ m2 = false) ∨ (m1 = true ∧ m2 = true ∧ m3 = false) ∨ (m1 = true ∧ m2 = true ∧ m3 = true ∧ m4 = false) ∨ (m1 = true ∧ m2 = true ∧ m3 = true ∧ m4 = true) := by
    cases m1 <;> cases m2 <;> cases m3 <;> cases m4 <;> simp
  all_goals
    go_enter Tryz.func45, Tryz.ntmps45
    go_wp2_with (go_at_call 63; first | (with_reducible refine (M1.out _).mono ?_; rintro e w' ⟨rfl, rfl⟩) | (with_reducible refine (M2.out _).mono ?_; rintro e w' ⟨rfl, rfl⟩) | (with_reducible refine (M3.out _).mono ?_; rintro e w' ⟨rfl, rfl⟩) | (with_reducible refine (M4.out _).mono ?_; rintro e w' ⟨rfl, rfl⟩) | (with_reducible refine (M5.out _).mono ?_; rintro e w' ⟨rfl, rfl⟩))
    go_ret
    rw [HP.out]
    exact ⟨rfl, (Below.refl _ _).alloc (Nat.le_refl _) _⟩
end Go.Proofs.YtnkhiaikdmpimaaGreatDoor
