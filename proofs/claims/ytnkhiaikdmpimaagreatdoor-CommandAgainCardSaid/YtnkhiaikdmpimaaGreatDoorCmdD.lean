/- THE REFERENCE'S NUMBERS: cauteryref34.decimal, cauteryref30.decimal. -/
import Derived.Test.YtnkhiaikdmpimaaGreatDoorCmdB
import Derived.Test.YtnkhiaikdmpimaaGreatDoorLexP
import Derived.Test.YtnkhiaikdmpimaaGreatDoorTxtPlain
namespace Go.Proofs.YtnkhiaikdmpimaaGreatDoor
open Go.RowKit Lx

def digit (m : Nat) : UInt8 := UInt8.ofNat (48 + m % 10)
theorem digit_int (m : Nat) : ((digit m).toNat : Int) = 48 + (m : Int) % 10 := by
  unfold digit
  rw [UInt8.toNat_ofNat']
  omega
theorem dec_step (m : Nat) (h : 10 ≤ m) : Lib.decDigits m = Lib.decDigits (m / 10) ++ [digit m] := by
  rw [Lib.decDigits, dif_neg (by omega)]; rfl
theorem dec_one (m : Nat) (h : m < 10) : Lib.decDigits m = [digit m] := by
  rw [Lib.decDigits, dif_pos h]; unfold digit; rw [Nat.mod_eq_of_lt h]
theorem dec_last (m : Nat) : ∃ l, Lib.decDigits m = l ++ [digit m] ∧ (10 ≤ m → l = Lib.decDigits (m / 10)) ∧ (m < 10 → l = []) := by
  by_cases h : 10 ≤ m
  · exact ⟨_, dec_step m h, fun _ => rfl, fun h => by omega⟩
  · exact ⟨[], dec_one m (by omega), fun h' => absurd h' h, fun _ => rfl⟩
theorem dec_len (m : Nat) (h : m < 18446744073709551616) : (Lib.decDigits m).length ≤ 20 := by
  have := itoa_len m (by omega) (by omega)
  rwa [itoa_nat] at this

set_option maxHeartbeats 1000000 in
set_option maxRecDepth 100000 in
theorem rdecimal34_any (m : Nat) (hm : m < 18446744073709551616) (w : World) :
    Calls Tryz.prog 19 #[.int .u64 m] w fun e w' => e = .returned (.string ⟨(Lib.itoa m).toArray⟩) ∧ Below w.heap.size w w' := by
  have HI := Lib.hid (itoa_nat m)
  have HL := Lib.hid (dec_len m hm)
  have ob := one_byte (digit m) 1 w
  rw [digit_int] at ob
  go_enter Tryz.func19, Tryz.ntmps19
  go_wp2_with fail
  clear ob
  go_loopg [0, 3] m (fun g vn vs wr => ∃ k : Nat, ∃ acc : List UInt8, g = k ∧ k ≤ m ∧ vn = .int .u64 k ∧ vs = .string ⟨(digit k :: acc).toArray⟩ ∧ Lib.decDigits m = Lib.decDigits k ++ acc ∧ Below w.heap.size w wr)
  case atStart => exact ⟨m, [], rfl, Nat.le_refl _, rfl, rfl, by simp, (Below.refl _ _).alloc (Nat.le_refl _) _⟩
  case round =>
    obtain ⟨k, acc, hg, hk, rfl, rfl, hd, hbr⟩ := hrel
    have HD := Lib.hid hd
    have HBr := Lib.hid hbr
    have hsz := hbr.size
    have hal : acc.length ≤ 20 := by have := HL.out; rw [HD.out, List.length_append] at this; omega
    clear hd hbr
    by_cases h10 : 10 ≤ k
    · have hi : (10 : Int) ≤ (k : Int) := by omega
      have ob := one_byte (digit (k / 10)) 1 wr
      rw [digit_int, show ((k / 10 : Nat) : Int) = (k : Int) / 10 by omega] at ob
      go_wp2_with fail
      go_roundg (k / 10)
      case measure => omega
      case rel => exact ⟨k / 10, digit k :: acc, rfl, by omega, by go_num, rfl, by rw [HD.out, dec_step k h10, List.append_assoc]; rfl, HBr.out.alloc hsz _⟩
    · have hi : ¬ (10 : Int) ≤ (k : Int) := by omega
      have hfin : Lib.itoa m = digit k :: acc := by rw [HI.out, HD.out, dec_one k (by omega)]; rfl
      have HF := Lib.hid hfin
      clear hfin
      go_wp2_with fail
      go_ret
      rw [HF.out]
      exact ⟨rfl, HBr.out⟩

set_option maxHeartbeats 1000000 in
set_option maxRecDepth 100000 in
theorem rdecimal30_any (m : Nat) (h0 : 0 < m) (hm : m < 9223372036854775808) (w : World) :
    Calls Tryz.prog 38 #[.int .i64 m] w fun e w' => e = .returned (.string ⟨(Lib.itoa m).toArray⟩) ∧ Below w.heap.size w w' := by
  have HI := Lib.hid (itoa_nat m)
  have HL := Lib.hid (dec_len m (by omega))
  go_enter Tryz.func38, Tryz.ntmps38
  go_wp2_with fail
  go_loopg [0, 3] m (fun g vn vs wr => ∃ k : Nat, ∃ acc : List UInt8, g = k ∧ k ≤ m ∧ vn = .int .i64 k ∧ vs = .string ⟨acc.toArray⟩ ∧ (0 < k → Lib.decDigits m = Lib.decDigits k ++ acc) ∧ (k = 0 → Lib.decDigits m = acc) ∧ Below w.heap.size w wr)
  case atStart => exact ⟨m, [], rfl, Nat.le_refl _, rfl, rfl, fun _ => by simp, fun h => by omega, Below.refl _ _⟩
  case round =>
    obtain ⟨k, acc, hg, hk, rfl, rfl, hd, hd0, hbr⟩ := hrel
    have HD := Lib.hid hd
    have HD0 := Lib.hid hd0
    have HBr := Lib.hid hbr
    have hsz := hbr.size
    by_cases hp : 0 < k
    · have hal : acc.length ≤ 20 := by have := HL.out; rw [HD.out hp, List.length_append] at this; omega
      clear hd hd0 hbr
      have hi : (0 : Int) < (k : Int) := by omega
      have ob := one_byte (digit k) 1 wr
      rw [digit_int] at ob
      go_wp2_with fail
      go_roundg (k / 10)
      case measure => omega
      case rel =>
        refine ⟨k / 10, digit k :: acc, rfl, by omega, by go_num, rfl, fun h => ?_, fun h => ?_, HBr.out.alloc hsz _⟩
        · rw [HD.out hp, dec_step k (by omega), List.append_assoc]; rfl
        · rw [HD.out hp, dec_one k (by omega)]; rfl
    · clear hd hd0 hbr
      obtain rfl : k = 0 := by omega
      have hfin : Lib.itoa m = acc := by rw [HI.out, HD0.out rfl]
      have HF := Lib.hid hfin
      clear hfin
      go_wp2_with fail
      go_ret
      rw [HF.out]
      exact ⟨rfl, HBr.out⟩
end Go.Proofs.YtnkhiaikdmpimaaGreatDoor
