/- THE SMALL FUNCTIONS OF lex AND OF ITS REFERENCE: what each byte is. -/
import Derived.Test.YtnkhiaikdmpimaaGreatDoorStr
import Derived.WalkKit
import Derived.ProofKit
import Derived.OwnWalk
import Derived.Outline
import Derived.BigQuiet
import Derived.Deep.QuietTactic
import Derived.Lib.Hide
import Derived.WalkSpells
import Derived.WalkLawsBesides
import Derived.Test.YtnkhiaikdmpimaaGreatDoorLexPlain
namespace Go.Proofs.YtnkhiaikdmpimaaGreatDoor
open Go.RowKit Lx

theorem ret_bool {a b : Bool} (h : a = b) : Ending.returned (.bool a) = .returned (.bool b) := by rw [h]
theorem ret_int {k : IntKind} {a b : Int} (h : a = b) : Ending.returned (.int k a) = .returned (.int k b) := by rw [h]
theorem ret_two {a b c d : Value} (h : a = c) (g : b = d) : Ending.returned (.tuple #[a, b]) = .returned (.tuple #[c, d]) := by rw [h, g]

theorem bare_int (c : UInt8) : bareB c = (decide (32 < (c.toNat : Int)) && decide ((c.toNat : Int) ≤ 126) && (c.toNat : Int) != 34 && (c.toNat : Int) != 92) := by
  have : ∀ c : Fin 256, bareB (UInt8.ofNat c.val) = (decide (32 < ((UInt8.ofNat c.val).toNat : Int)) && decide (((UInt8.ofNat c.val).toNat : Int) ≤ 126) && ((UInt8.ofNat c.val).toNat : Int) != 34 && ((UInt8.ofNat c.val).toNat : Int) != 92) := by decide +kernel
  have g := this ⟨c.toNat, c.toNat_lt⟩
  simpa only [UInt8.ofNat_toNat] using g
theorem blank_int (c : UInt8) : blankB c = ((c.toNat : Int) == 32 || (c.toNat : Int) == 9) := by
  have : ∀ c : Fin 256, blankB (UInt8.ofNat c.val) = (((UInt8.ofNat c.val).toNat : Int) == 32 || ((UInt8.ofNat c.val).toNat : Int) == 9) := by decide +kernel
  have g := this ⟨c.toNat, c.toNat_lt⟩
  simpa only [UInt8.ofNat_toNat] using g

set_option maxHeartbeats 400000 in
theorem isBare_int (c : Int) (w : World) :
    Calls Tryz.prog 64 #[.int .u8 c] w fun e w' => e = .returned (.bool (decide (32 < c) && decide (c ≤ 126) && c != 34 && c != 92)) ∧ w = w' := by
  go_enter Tryz.func64, Tryz.ntmps64
  go_wp2
  all_goals go_ret
  all_goals refine ⟨ret_bool ?_, rfl⟩
  all_goals (first | rfl | (rw [Bool.eq_iff_iff]; simp; omega))
theorem isBare_any (c : UInt8) (w : World) :
    Calls Tryz.prog 64 #[.int .u8 c.toNat] w fun e w' => e = .returned (.bool (bareB c)) ∧ w = w' := by
  rw [bare_int]; exact isBare_int _ _

set_option maxHeartbeats 400000 in
theorem rbare_int (c : Int) (w : World) :
    Calls Tryz.prog 36 #[.int .u8 c] w fun e w' => e = .returned (.bool (decide (33 ≤ c) && decide (c ≤ 126) && c != 34 && c != 92)) ∧ w = w' := by
  go_enter Tryz.func36, Tryz.ntmps36
  go_wp2
  all_goals go_ret
  all_goals refine ⟨ret_bool ?_, rfl⟩
  all_goals (first | rfl | (rw [Bool.eq_iff_iff]; simp; omega))
theorem rbare_any (c : UInt8) (w : World) :
    Calls Tryz.prog 36 #[.int .u8 c.toNat] w fun e w' => e = .returned (.bool (bareB c)) ∧ w = w' := by
  rw [bare_int, show decide (32 < (c.toNat : Int)) = decide (33 ≤ (c.toNat : Int)) from by rw [decide_eq_decide]; omega]; exact rbare_int _ _

/-- a digit's number, or -1 -/
def hexi (c : UInt8) : Int := match hexv c with | some x => x.toNat | none => -1
theorem hexi_int (c : UInt8) : hexi c = if 48 ≤ (c.toNat : Int) ∧ (c.toNat : Int) ≤ 57 then (c.toNat : Int) - 48 else if 97 ≤ (c.toNat : Int) ∧ (c.toNat : Int) ≤ 102 then (c.toNat : Int) - 97 + 10 else -1 := by
  have : ∀ c : Fin 256, hexi (UInt8.ofNat c.val) = if 48 ≤ ((UInt8.ofNat c.val).toNat : Int) ∧ ((UInt8.ofNat c.val).toNat : Int) ≤ 57 then ((UInt8.ofNat c.val).toNat : Int) - 48 else if 97 ≤ ((UInt8.ofNat c.val).toNat : Int) ∧ ((UInt8.ofNat c.val).toNat : Int) ≤ 102 then ((UInt8.ofNat c.val).toNat : Int) - 97 + 10 else -1 := by decide +kernel
  have g := this ⟨c.toNat, c.toNat_lt⟩
  simpa only [UInt8.ofNat_toNat] using g
theorem hexi_bd (c : UInt8) : -1 ≤ hexi c ∧ hexi c ≤ 15 := by
  have := c.toNat_lt
  rw [hexi_int]; split
  · omega
  · split <;> omega
end Go.Proofs.YtnkhiaikdmpimaaGreatDoor
