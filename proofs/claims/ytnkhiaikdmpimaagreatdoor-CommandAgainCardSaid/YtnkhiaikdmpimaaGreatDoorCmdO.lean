/- cauterylaw34.plain, small. -/
import Derived.Test.YtnkhiaikdmpimaaGreatDoorCmdN
namespace Go.Proofs.YtnkhiaikdmpimaaGreatDoor
open Go.RowKit Lx

set_option maxHeartbeats 2000000 in
set_option maxRecDepth 100000 in
theorem plain_any (c : Cmd) (w : World) :
    Calls Tryz.prog 10 #[encCmd c] w fun e w' => e = .returned (encCmd c) ∧ Below w.heap.size w w' := by
  rw [encCmd_eq]
  go_enter Tryz.func10, Tryz.ntmps10
  go_wp2_with fail
  refine bodyPost_ret (v := encCmd c) (by rw [encCmd_eq]; simp [results, Tryz.results10, go_sem]) rfl ⟨rfl, ?_⟩
  exact (((Below.refl _ _).alloc (Nat.le_refl _) _).alloc (by simp) _).alloc (by simp; omega) _

def smallB (c : Cmd) : Bool := decide (c.verb.length ≤ 20) && decide (c.set.length ≤ 20) && decide (c.snap.length ≤ 20) && decide (c.other.length ≤ 20) && decide (c.text.length ≤ 300)
set_option maxHeartbeats 2000000 in
set_option maxRecDepth 100000 in
theorem small_any (c : Cmd) (w : World) :
    Calls Tryz.prog 6 #[encCmd c] w fun e w' => e = .returned (.bool (smallB c)) ∧ Below w.heap.size w w' := by
  rw [encCmd_eq]
  have HS : Hid (smallB c = (decide (c.verb.length ≤ 20) && decide (c.set.length ≤ 20) && decide (c.snap.length ≤ 20) && decide (c.other.length ≤ 20) && decide (c.text.length ≤ 300))) := Lib.hid rfl
  generalize smallB c = sb at *
  by_cases h0 : c.verb.length ≤ 20
  case neg =>
    have HV : Hid (sb = false) := Lib.hid (by rw [HS.out, decide_eq_false h0]; simp)
    have g0 : decide ((c.verb.length : Int) ≤ 20) = false := by simp; omega
    clear h0
    go_enter Tryz.func6, Tryz.ntmps6
    go_wp2_with fail
    go_ret
    rw [HV.out]
    exact ⟨rfl, (Below.refl _ _).alloc (Nat.le_refl _) _⟩
  have g0 : (c.verb.length : Int) ≤ 20 := by omega
  by_cases h1 : c.set.length ≤ 20
  case neg =>
    have HV : Hid (sb = false) := Lib.hid (by rw [HS.out, decide_eq_false h1]; simp)
    have g1 : decide ((c.set.length : Int) ≤ 20) = false := by simp; omega
    clear h1
    go_enter Tryz.func6, Tryz.ntmps6
    go_wp2_with fail
    go_ret
    rw [HV.out]
    exact ⟨rfl, (Below.refl _ _).alloc (Nat.le_refl _) _⟩
  have g1 : (c.set.length : Int) ≤ 20 := by omega
  by_cases h2 : c.snap.length ≤ 20
  case neg =>
    have HV : Hid (sb = false) := Lib.hid (by rw [HS.out, decide_eq_false h2]; simp)
    have g2 : decide ((c.snap.length : Int) ≤ 20) = false := by simp; omega
    clear h2
    go_enter Tryz.func6, Tryz.ntmps6
    go_wp2_with fail
    go_ret
    rw [HV.out]
    exact ⟨rfl, (Below.refl _ _).alloc (Nat.le_refl _) _⟩
  have g2 : (c.snap.length : Int) ≤ 20 := by omega
  by_cases h3 : c.other.length ≤ 20
  case neg =>
    have HV : Hid (sb = false) := Lib.hid (by rw [HS.out, decide_eq_false h3]; simp)
    have g3 : decide ((c.other.length : Int) ≤ 20) = false := by simp; omega
    clear h3
    go_enter Tryz.func6, Tryz.ntmps6
    go_wp2_with fail
    go_ret
    rw [HV.out]
    exact ⟨rfl, (Below.refl _ _).alloc (Nat.le_refl _) _⟩
  have g3 : (c.other.length : Int) ≤ 20 := by omega
  by_cases h4 : c.text.length ≤ 300
  case neg =>
    have HV : Hid (sb = false) := Lib.hid (by rw [HS.out, decide_eq_false h4]; simp)
    have g4 : decide ((c.text.length : Int) ≤ 300) = false := by simp; omega
    clear h4
    go_enter Tryz.func6, Tryz.ntmps6
    go_wp2_with fail
    go_ret
    rw [HV.out]
    exact ⟨rfl, (Below.refl _ _).alloc (Nat.le_refl _) _⟩
  have g4 : (c.text.length : Int) ≤ 300 := by omega
  have HV : Hid (sb = true) := Lib.hid (by rw [HS.out, decide_eq_true h0, decide_eq_true h1, decide_eq_true h2, decide_eq_true h3, decide_eq_true h4]; rfl)
  clear h0 h1 h2 h3 h4
  go_enter Tryz.func6, Tryz.ntmps6
  go_wp2_with fail
  go_ret
  rw [HV.out]
  exact ⟨rfl, (Below.refl _ _).alloc (Nat.le_refl _) _⟩
end Go.Proofs.YtnkhiaikdmpimaaGreatDoor
