/- THE SMALL FUNCTIONS OF lex AND OF ITS REFERENCE: what each byte is. -/
import Derived.Test.YtnkhiaikdmpimaaDoorStr
import Derived.WalkKit
import Derived.ProofKit
import Derived.OwnWalk
import Derived.Outline
import Derived.BigQuiet
import Derived.Deep.QuietTactic
import Derived.Lib.Hide
import Derived.WalkSpells
import Derived.WalkLawsBesides
import Derived.Test.YtnkhiaikdmpimaaDoorLexPlain
namespace Go.Proofs.YtnkhiaikdmpimaaDoor
open Go.RowKit Lx

theorem ret_bool {a b : Bool} (h : a = b) : Ending.returned (.bool a) = .returned (.bool b) := by rw [h]
theorem ret_int {k : IntKind} {a b : Int} (h : a = b) : Ending.returned (.int k a) = .returned (.int k b) := by rw [h]
theorem ret_two {a b c d : Value} (h : a = c) (g : b = d) : Ending.returned (.tuple #[a, b]) = .returned (.tuple #[c, d]) := by rw [h, g]

theorem bare_int (c : UInt8) : bareB c = (decide (32 < (c.toNat : Int)) && decide ((c.toNat : Int) ≤ 126) && (c.toNat : Int) != 34 && (c.toNat : Int) != 92) := by
  have : ∀ c : Fin 256, bareB (UInt8.ofNat c.val) = (decide (32 < ((UInt8.ofNat c.val).toNat : Int)) && decide (((UInt8.ofNat c.val).toNat : Int) ≤ 126) && ((UInt8.ofNat c.val).toNat : Int) != 34 && ((UInt8.ofNat c.val).toNat : Int) != 92) := by decide +kernel
  have g := this ⟨c.toNat, c.toNat_lt⟩
  simpa only [UInt8.ofNat_toNat] using g
theorem blank_int (c : UInt8) : blankB c = ((c.toNat : Int) == 32 || (c.toNat : Int) == 9) := by
  have : ∀ c : Fin 256, blankB (UInt8.ofNat c.val) = (((UInt8.ofNat c.val).toNat : Int) == 32 || ((UInt8.ofNat c.val).toNat : Int) == 9) := by decide +kernel
  have g := this ⟨c.toNat, c.toNat_lt⟩
  simpa only [UInt8.ofNat_toNat] using g

set_option maxHeartbeats 400000 in
theorem isBare_int (c : Int) (w : World) :
    Calls Tryd.prog 45 #[.int .u8 c] w fun e w' => e = .returned (.bool (decide (32 < c) && decide (c ≤ 126) && c != 34 && c != 92)) ∧ w = w' := by
  go_enter Tryd.func45, Tryd.ntmps45
  go_wp2
  all_goals go_ret
  all_goals refine ⟨ret_bool ?_, rfl⟩
  all_goals (first | rfl | (rw [Bool.eq_iff_iff]; simp; omega))
theorem isBare_any (c : UInt8) (w : World) :
    Calls Tryd.prog 45 #[.int .u8 c.toNat] w fun e w' => e = .returned (.bool (bareB c)) ∧ w = w' := by
  rw [bare_int]; exact isBare_int _ _

set_option maxHeartbeats 400000 in
theorem rbare_int (c : Int) (w : World) :
    Calls Tryd.prog 22 #[.int .u8 c] w fun e w' => e = .returned (.bool (decide (33 ≤ c) && decide (c ≤ 126) && c != 34 && c != 92)) ∧ w = w' := by
  go_enter Tryd.func22, Tryd.ntmps22
  go_wp2
  all_goals go_ret
  all_goals refine ⟨ret_bool ?_, rfl⟩
  all_goals (first | rfl | (rw [Bool.eq_iff_iff]; simp; omega))
theorem rbare_any (c : UInt8) (w : World) :
    Calls Tryd.prog 22 #[.int .u8 c.toNat] w fun e w' => e = .returned (.bool (bareB c)) ∧ w = w' := by
  rw [bare_int, show decide (32 < (c.toNat : Int)) = decide (33 ≤ (c.toNat : Int)) from by rw [decide_eq_decide]; omega]; exact rbare_int _ _

set_option maxHeartbeats 400000 in
theorem rblank_int (c : Int) (w : World) :
    Calls Tryd.prog 20 #[.int .u8 c] w fun e w' => e = .returned (.bool (c == 32 || c == 9)) ∧ w = w' := by
  go_enter Tryd.func20, Tryd.ntmps20
  go_wp2
  all_goals go_ret
  all_goals refine ⟨ret_bool ?_, rfl⟩
  all_goals (first | rfl | (rw [Bool.eq_iff_iff]; simp; omega))
theorem rblank_any (c : UInt8) (w : World) :
    Calls Tryd.prog 20 #[.int .u8 c.toNat] w fun e w' => e = .returned (.bool (blankB c)) ∧ w = w' := by
  rw [blank_int]; exact rblank_int _ _

/-- a digit's number, or -1 -/
def hexi (c : UInt8) : Int := match hexv c with | some x => x.toNat | none => -1
theorem hexi_int (c : UInt8) : hexi c = if 48 ≤ (c.toNat : Int) ∧ (c.toNat : Int) ≤ 57 then (c.toNat : Int) - 48 else if 97 ≤ (c.toNat : Int) ∧ (c.toNat : Int) ≤ 102 then (c.toNat : Int) - 97 + 10 else -1 := by
  have : ∀ c : Fin 256, hexi (UInt8.ofNat c.val) = if 48 ≤ ((UInt8.ofNat c.val).toNat : Int) ∧ ((UInt8.ofNat c.val).toNat : Int) ≤ 57 then ((UInt8.ofNat c.val).toNat : Int) - 48 else if 97 ≤ ((UInt8.ofNat c.val).toNat : Int) ∧ ((UInt8.ofNat c.val).toNat : Int) ≤ 102 then ((UInt8.ofNat c.val).toNat : Int) - 97 + 10 else -1 := by decide +kernel
  have g := this ⟨c.toNat, c.toNat_lt⟩
  simpa only [UInt8.ofNat_toNat] using g
theorem hexi_bd (c : UInt8) : -1 ≤ hexi c ∧ hexi c ≤ 15 := by
  have := c.toNat_lt
  rw [hexi_int]; split
  · omega
  · split <;> omega
set_option maxHeartbeats 400000 in
theorem rhex_int (c : Int) (h0 : 0 ≤ c) (h1 : c ≤ 255) (w : World) :
    Calls Tryd.prog 54 #[.int .u8 c] w fun e w' => e = .returned (.int .i64 (if 48 ≤ c ∧ c ≤ 57 then c - 48 else if 97 ≤ c ∧ c ≤ 102 then c - 97 + 10 else -1)) ∧ w = w' := by
  go_enter Tryd.func54, Tryd.ntmps54
  go_wp2
  all_goals go_ret
  all_goals refine ⟨ret_int ?_, rfl⟩
  all_goals (first | rfl | omega)
theorem rhex_any (c : UInt8) (w : World) :
    Calls Tryd.prog 54 #[.int .u8 c.toNat] w fun e w' => e = .returned (.int .i64 (hexi c)) ∧ w = w' := by
  rw [hexi_int]; exact rhex_int _ (by omega) (by have := c.toNat_lt; omega) _

end Go.Proofs.YtnkhiaikdmpimaaDoor
