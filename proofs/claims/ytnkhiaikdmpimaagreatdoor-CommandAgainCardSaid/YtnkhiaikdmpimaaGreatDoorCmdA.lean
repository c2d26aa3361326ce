/- cauteryref34.Parts. -/
import Derived.Test.YtnkhiaikdmpimaaGreatDoorCmdPlain
import Derived.Test.YtnkhiaikdmpimaaGreatDoorLexA
namespace Go.Proofs.YtnkhiaikdmpimaaGreatDoor
open Go.RowKit Lx

def encPol (k : Pol) : Value := .agg #[.int .i64 k.last, .int .i64 k.hours, .int .i64 k.days, .int .i64 k.weeks, .int .i64 k.months]
def encCmd (c : Cmd) : Value := .agg #[.bool c.second, .string ⟨c.verb.toArray⟩, .string ⟨c.set.toArray⟩, .string ⟨c.snap.toArray⟩, .string ⟨c.other.toArray⟩, .string ⟨c.text.toArray⟩, .int .i64 c.cell, .int .u64 c.now, .int .i64 c.keep.last, .int .i64 c.keep.hours, .int .i64 c.keep.days, .int .i64 c.keep.weeks, .int .i64 c.keep.months]
def letter : Nat → UInt8
  | 0 => 115 | 1 => 110 | 2 => 111 | 3 => 99 | 4 => 116 | 5 => 119 | 6 => 107 | 7 => 64 | _ => 102
def partsS (c : Cmd) : List UInt8 := match partsN c with | some r => r.map letter | none => []

set_option maxHeartbeats 1000000 in
set_option maxRecDepth 100000 in
theorem parts_any (c : Cmd) (w : World) :
    Calls Tryz.prog 17 #[encCmd c] w fun e w' => e = .returned (.tuple #[.string ⟨(partsS c).toArray⟩, .bool (partsN c).isSome]) ∧ Below w.heap.size w w' := by
  obtain ⟨sc, vb, st, sn, ot, tx, cl, nw, kp⟩ := c
  by_cases h : vb = v_create
  · subst h
    unfold encCmd
    go_enter Tryz.func17, Tryz.ntmps17
    go_wp2_with fail
    go_ret2
    exact ⟨rfl, (Below.refl _ _).alloc (Nat.le_refl _) _⟩
  have n_create : (vb == [99, 114, 101, 97, 116, 101]) = false := by simpa using h
  have H_create := Lib.hid h
  clear h
  by_cases h : vb = v_drop
  · subst h
    unfold encCmd
    go_enter Tryz.func17, Tryz.ntmps17
    go_wp2_with fail
    go_ret2
    exact ⟨rfl, (Below.refl _ _).alloc (Nat.le_refl _) _⟩
  have n_drop : (vb == [100, 114, 111, 112]) = false := by simpa using h
  have H_drop := Lib.hid h
  clear h
  by_cases h : vb = v_write
  · subst h
    unfold encCmd
    go_enter Tryz.func17, Tryz.ntmps17
    go_wp2_with fail
    go_ret2
    exact ⟨rfl, (Below.refl _ _).alloc (Nat.le_refl _) _⟩
  have n_write : (vb == [119, 114, 105, 116, 101]) = false := by simpa using h
  have H_write := Lib.hid h
  clear h
  by_cases h : vb = v_trim
  · subst h
    unfold encCmd
    go_enter Tryz.func17, Tryz.ntmps17
    go_wp2_with fail
    go_ret2
    exact ⟨rfl, (Below.refl _ _).alloc (Nat.le_refl _) _⟩
  have n_trim : (vb == [116, 114, 105, 109]) = false := by simpa using h
  have H_trim := Lib.hid h
  clear h
  by_cases h : vb = v_read
  · subst h
    obtain rfl | ⟨x, r, rfl⟩ : sn = [] ∨ ∃ x r, sn = x :: r := by cases sn <;> simp
    · unfold encCmd
      go_enter Tryz.func17, Tryz.ntmps17
      go_wp2_with fail
      go_ret2
      exact ⟨rfl, (Below.refl _ _).alloc (Nat.le_refl _) _⟩
    · unfold encCmd
      go_enter Tryz.func17, Tryz.ntmps17
      go_wp2_with fail
      go_ret2
      exact ⟨rfl, (Below.refl _ _).alloc (Nat.le_refl _) _⟩
  have n_read : (vb == [114, 101, 97, 100]) = false := by simpa using h
  have H_read := Lib.hid h
  clear h
  by_cases h : vb = v_snap
  · subst h
    unfold encCmd
    go_enter Tryz.func17, Tryz.ntmps17
    go_wp2_with fail
    go_ret2
    exact ⟨rfl, (Below.refl _ _).alloc (Nat.le_refl _) _⟩
  have n_snap : (vb == [115, 110, 97, 112]) = false := by simpa using h
  have H_snap := Lib.hid h
  clear h
  by_cases h : vb = v_destroy
  · subst h
    unfold encCmd
    go_enter Tryz.func17, Tryz.ntmps17
    go_wp2_with fail
    go_ret2
    exact ⟨rfl, (Below.refl _ _).alloc (Nat.le_refl _) _⟩
  have n_destroy : (vb == [100, 101, 115, 116, 114, 111, 121]) = false := by simpa using h
  have H_destroy := Lib.hid h
  clear h
  by_cases h : vb = v_rollback
  · subst h
    unfold encCmd
    go_enter Tryz.func17, Tryz.ntmps17
    go_wp2_with fail
    go_ret2
    exact ⟨rfl, (Below.refl _ _).alloc (Nat.le_refl _) _⟩
  have n_rollback : (vb == [114, 111, 108, 108, 98, 97, 99, 107]) = false := by simpa using h
  have H_rollback := Lib.hid h
  clear h
  by_cases h : vb = v_hold
  · subst h
    unfold encCmd
    go_enter Tryz.func17, Tryz.ntmps17
    go_wp2_with fail
    go_ret2
    exact ⟨rfl, (Below.refl _ _).alloc (Nat.le_refl _) _⟩
  have n_hold : (vb == [104, 111, 108, 100]) = false := by simpa using h
  have H_hold := Lib.hid h
  clear h
  by_cases h : vb = v_release
  · subst h
    unfold encCmd
    go_enter Tryz.func17, Tryz.ntmps17
    go_wp2_with fail
    go_ret2
    exact ⟨rfl, (Below.refl _ _).alloc (Nat.le_refl _) _⟩
  have n_release : (vb == [114, 101, 108, 101, 97, 115, 101]) = false := by simpa using h
  have H_release := Lib.hid h
  clear h
  by_cases h : vb = v_clone
  · subst h
    unfold encCmd
    go_enter Tryz.func17, Tryz.ntmps17
    go_wp2_with fail
    go_ret2
    exact ⟨rfl, (Below.refl _ _).alloc (Nat.le_refl _) _⟩
  have n_clone : (vb == [99, 108, 111, 110, 101]) = false := by simpa using h
  have H_clone := Lib.hid h
  clear h
  by_cases h : vb = v_send
  · subst h
    obtain rfl | ⟨x, r, rfl⟩ : ot = [] ∨ ∃ x r, ot = x :: r := by cases ot <;> simp
    · unfold encCmd
      go_enter Tryz.func17, Tryz.ntmps17
      go_wp2_with fail
      go_ret2
      exact ⟨rfl, (Below.refl _ _).alloc (Nat.le_refl _) _⟩
    · unfold encCmd
      go_enter Tryz.func17, Tryz.ntmps17
      go_wp2_with fail
      go_ret2
      exact ⟨rfl, (Below.refl _ _).alloc (Nat.le_refl _) _⟩
  have n_send : (vb == [115, 101, 110, 100]) = false := by simpa using h
  have H_send := Lib.hid h
  clear h
  by_cases h : vb = v_scrub
  · subst h
    unfold encCmd
    go_enter Tryz.func17, Tryz.ntmps17
    go_wp2_with fail
    go_ret2
    exact ⟨rfl, (Below.refl _ _).alloc (Nat.le_refl _) _⟩
  have n_scrub : (vb == [115, 99, 114, 117, 98]) = false := by simpa using h
  have H_scrub := Lib.hid h
  clear h
  by_cases h : vb = v_heal
  · subst h
    unfold encCmd
    go_enter Tryz.func17, Tryz.ntmps17
    go_wp2_with fail
    go_ret2
    exact ⟨rfl, (Below.refl _ _).alloc (Nat.le_refl _) _⟩
  have n_heal : (vb == [104, 101, 97, 108]) = false := by simpa using h
  have H_heal := Lib.hid h
  clear h
  by_cases h : vb = v_list
  · subst h
    unfold encCmd
    go_enter Tryz.func17, Tryz.ntmps17
    go_wp2_with fail
    go_ret2
    exact ⟨rfl, (Below.refl _ _).alloc (Nat.le_refl _) _⟩
  have n_list : (vb == [108, 105, 115, 116]) = false := by simpa using h
  have H_list := Lib.hid h
  clear h
  by_cases h : vb = v_losses
  · subst h
    unfold encCmd
    go_enter Tryz.func17, Tryz.ntmps17
    go_wp2_with fail
    go_ret2
    exact ⟨rfl, (Below.refl _ _).alloc (Nat.le_refl _) _⟩
  have n_losses : (vb == [108, 111, 115, 115, 101, 115]) = false := by simpa using h
  have H_losses := Lib.hid h
  clear h
  by_cases h : vb = v_keep
  · subst h
    unfold encCmd
    go_enter Tryz.func17, Tryz.ntmps17
    go_wp2_with fail
    go_ret2
    exact ⟨rfl, (Below.refl _ _).alloc (Nat.le_refl _) _⟩
  have n_keep : (vb == [107, 101, 101, 112]) = false := by simpa using h
  have H_keep := Lib.hid h
  clear h
  by_cases h : vb = v_auto
  · subst h
    unfold encCmd
    go_enter Tryz.func17, Tryz.ntmps17
    go_wp2_with fail
    go_ret2
    exact ⟨rfl, (Below.refl _ _).alloc (Nat.le_refl _) _⟩
  have n_auto : (vb == [97, 117, 116, 111]) = false := by simpa using h
  have H_auto := Lib.hid h
  clear h
  have hp : partsN ⟨sc, vb, st, sn, ot, tx, cl, nw, kp⟩ = none := by
    unfold partsN
    rw [if_neg H_create.out, if_neg H_drop.out, if_neg H_write.out, if_neg H_trim.out, if_neg H_read.out, if_neg H_snap.out, if_neg H_destroy.out, if_neg H_rollback.out, if_neg H_hold.out, if_neg H_release.out, if_neg H_clone.out, if_neg H_send.out, if_neg H_scrub.out, if_neg H_heal.out, if_neg H_list.out, if_neg H_losses.out, if_neg H_keep.out, if_neg H_auto.out]
  have hs : partsS ⟨sc, vb, st, sn, ot, tx, cl, nw, kp⟩ = [] := by unfold partsS; rw [hp]
  rw [hp, hs]
  clear hp hs
  unfold encCmd
  go_enter Tryz.func17, Tryz.ntmps17
  go_wp2_with fail
  go_ret2
  exact ⟨rfl, (Below.refl _ _).alloc (Nat.le_refl _) _⟩
end Go.Proofs.YtnkhiaikdmpimaaGreatDoor
