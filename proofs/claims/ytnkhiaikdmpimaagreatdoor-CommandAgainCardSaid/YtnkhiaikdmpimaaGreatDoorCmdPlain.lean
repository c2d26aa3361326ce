/- THE PLAIN LAW OF command: what a command is as a line, and whether it may be; the program's way and the document's. -/
import Derived.Test.YtnkhiaikdmpimaaGreatDoorLexPlain
namespace Lx

structure Pol where
  last : Int
  hours : Int
  days : Int
  weeks : Int
  months : Int
  deriving DecidableEq
structure Cmd where
  second : Bool
  verb : List UInt8
  set : List UInt8
  snap : List UInt8
  other : List UInt8
  text : List UInt8
  cell : Int
  now : Int
  keep : Pol
  deriving DecidableEq
def Pol.zero : Pol := ⟨0, 0, 0, 0, 0⟩

abbrev v_create : List UInt8 := [99, 114, 101, 97, 116, 101]
abbrev v_drop : List UInt8 := [100, 114, 111, 112]
abbrev v_write : List UInt8 := [119, 114, 105, 116, 101]
abbrev v_trim : List UInt8 := [116, 114, 105, 109]
abbrev v_read : List UInt8 := [114, 101, 97, 100]
abbrev v_snap : List UInt8 := [115, 110, 97, 112]
abbrev v_destroy : List UInt8 := [100, 101, 115, 116, 114, 111, 121]
abbrev v_rollback : List UInt8 := [114, 111, 108, 108, 98, 97, 99, 107]
abbrev v_hold : List UInt8 := [104, 111, 108, 100]
abbrev v_release : List UInt8 := [114, 101, 108, 101, 97, 115, 101]
abbrev v_clone : List UInt8 := [99, 108, 111, 110, 101]
abbrev v_send : List UInt8 := [115, 101, 110, 100]
abbrev v_scrub : List UInt8 := [115, 99, 114, 117, 98]
abbrev v_heal : List UInt8 := [104, 101, 97, 108]
abbrev v_list : List UInt8 := [108, 105, 115, 116]
abbrev v_losses : List UInt8 := [108, 111, 115, 115, 101, 115]
abbrev v_keep : List UInt8 := [107, 101, 101, 112]
abbrev v_auto : List UInt8 := [97, 117, 116, 111]
/-- the rows that a verb may have (parts: 0 set, 1 snap, 2 other, 3 cell, 4 text, 5 time, 6 policy, 7 at, 8 from) -/
def rowsP (v : List UInt8) : List (List Nat) :=
  if v = v_create then [[0]]
  else if v = v_drop then [[0]]
  else if v = v_write then [[0, 3, 4]]
  else if v = v_trim then [[0, 3]]
  else if v = v_read then [[0, 3], [0, 7, 1, 3]]
  else if v = v_snap then [[0, 1]]
  else if v = v_destroy then [[0, 1]]
  else if v = v_rollback then [[0, 1]]
  else if v = v_hold then [[0, 1]]
  else if v = v_release then [[0, 1]]
  else if v = v_clone then [[0, 1, 2]]
  else if v = v_send then [[0, 1], [0, 1, 8, 2]]
  else if v = v_scrub then [[]]
  else if v = v_heal then [[]]
  else if v = v_list then [[]]
  else if v = v_losses then [[]]
  else if v = v_keep then [[0, 5, 6]]
  else if v = v_auto then [[0, 5]]
  else []
/-- the document's: one row, by what the command names -/
def partsN (c : Cmd) : Option (List Nat) :=
  if c.verb = v_create then some [0]
  else if c.verb = v_drop then some [0]
  else if c.verb = v_write then some [0, 3, 4]
  else if c.verb = v_trim then some [0, 3]
  else if c.verb = v_read then (if c.snap.isEmpty then some [0, 3] else some [0, 7, 1, 3])
  else if c.verb = v_snap then some [0, 1]
  else if c.verb = v_destroy then some [0, 1]
  else if c.verb = v_rollback then some [0, 1]
  else if c.verb = v_hold then some [0, 1]
  else if c.verb = v_release then some [0, 1]
  else if c.verb = v_clone then some [0, 1, 2]
  else if c.verb = v_send then (if c.other.isEmpty then some [0, 1] else some [0, 1, 8, 2])
  else if c.verb = v_scrub then some []
  else if c.verb = v_heal then some []
  else if c.verb = v_list then some []
  else if c.verb = v_losses then some []
  else if c.verb = v_keep then some [0, 5, 6]
  else if c.verb = v_auto then some [0, 5]
  else none

def hasP (r : List Nat) (p : Nat) : Bool := r.any (· == p)
def nameB (s : List UInt8) (is : Bool) : Bool := if is then decide (1 ≤ s.length) && decide (s.length ≤ 12) else s.isEmpty
def numB (n : Int) : Bool := decide (0 ≤ n) && decide (n ≤ 9999)
def polB (k : Pol) : Bool := numB k.last && numB k.hours && numB k.days && numB k.weeks && numB k.months
def fitsP (c : Cmd) (r : List Nat) : Bool :=
  nameB c.set (hasP r 0) && nameB c.snap (hasP r 1) && nameB c.other (hasP r 2) &&
  (decide (c.text.length ≤ 256) && (c.text.isEmpty || hasP r 4)) &&
  (decide (0 ≤ c.cell) && decide (c.cell < 16) && (c.cell == 0 || hasP r 3)) &&
  (c.now == 0 || hasP r 5) && (polB c.keep && (c.keep == Pol.zero || hasP r 6))
/-- the row of a command -/
def rowOfP (c : Cmd) : Option (List Nat) := (rowsP c.verb).find? (fitsP c)
theorem find_one (p : List Nat → Bool) (r : List Nat) : [r].find? p = (some r).filter p := by
  simp only [List.find?_cons, List.find?_nil, Option.filter]
  cases p r <;> rfl
theorem fits_read (c : Cmd) : [[0, 3], [0, 7, 1, 3]].find? (fitsP c) = (if c.snap.isEmpty then some [0, 3] else some [0, 7, 1, 3]).filter (fitsP c) := by
  cases hs : c.snap.isEmpty with
  | true =>
    have h2 : fitsP c [0, 7, 1, 3] = false := by
      have : c.snap = [] := by simpa using hs
      simp [fitsP, hasP, nameB, this]
    simp only [List.find?_cons, List.find?_nil, h2, Option.filter, if_true]
    cases fitsP c [0, 3] <;> rfl
  | false =>
    have h1 : fitsP c [0, 3] = false := by simp [fitsP, hasP, nameB, hs]
    simp only [List.find?_cons, List.find?_nil, h1, Option.filter, Bool.false_eq_true, if_false]
    cases fitsP c [0, 7, 1, 3] <;> rfl
theorem fits_send (c : Cmd) : [[0, 1], [0, 1, 8, 2]].find? (fitsP c) = (if c.other.isEmpty then some [0, 1] else some [0, 1, 8, 2]).filter (fitsP c) := by
  cases hs : c.other.isEmpty with
  | true =>
    have h2 : fitsP c [0, 1, 8, 2] = false := by
      have : c.other = [] := by simpa using hs
      simp [fitsP, hasP, nameB, this]
    simp only [List.find?_cons, List.find?_nil, h2, Option.filter, if_true]
    cases fitsP c [0, 1] <;> rfl
  | false =>
    have h1 : fitsP c [0, 1] = false := by simp [fitsP, hasP, nameB, hs]
    simp only [List.find?_cons, List.find?_nil, h1, Option.filter, Bool.false_eq_true, if_false]
    cases fitsP c [0, 1, 8, 2] <;> rfl
/-- THE TWO WAYS ARE ONE. -/
theorem rowOf_parts (c : Cmd) : rowOfP c = (partsN c).filter (fitsP c) := by
  unfold rowOfP rowsP partsN
  by_cases h_create : c.verb = v_create
  · rw [if_pos h_create, if_pos h_create]; exact find_one _ _
  rw [if_neg h_create, if_neg h_create]
  by_cases h_drop : c.verb = v_drop
  · rw [if_pos h_drop, if_pos h_drop]; exact find_one _ _
  rw [if_neg h_drop, if_neg h_drop]
  by_cases h_write : c.verb = v_write
  · rw [if_pos h_write, if_pos h_write]; exact find_one _ _
  rw [if_neg h_write, if_neg h_write]
  by_cases h_trim : c.verb = v_trim
  · rw [if_pos h_trim, if_pos h_trim]; exact find_one _ _
  rw [if_neg h_trim, if_neg h_trim]
  by_cases h_read : c.verb = v_read
  · rw [if_pos h_read, if_pos h_read]; exact fits_read c
  rw [if_neg h_read, if_neg h_read]
  by_cases h_snap : c.verb = v_snap
  · rw [if_pos h_snap, if_pos h_snap]; exact find_one _ _
  rw [if_neg h_snap, if_neg h_snap]
  by_cases h_destroy : c.verb = v_destroy
  · rw [if_pos h_destroy, if_pos h_destroy]; exact find_one _ _
  rw [if_neg h_destroy, if_neg h_destroy]
  by_cases h_rollback : c.verb = v_rollback
  · rw [if_pos h_rollback, if_pos h_rollback]; exact find_one _ _
  rw [if_neg h_rollback, if_neg h_rollback]
  by_cases h_hold : c.verb = v_hold
  · rw [if_pos h_hold, if_pos h_hold]; exact find_one _ _
  rw [if_neg h_hold, if_neg h_hold]
  by_cases h_release : c.verb = v_release
  · rw [if_pos h_release, if_pos h_release]; exact find_one _ _
  rw [if_neg h_release, if_neg h_release]
  by_cases h_clone : c.verb = v_clone
  · rw [if_pos h_clone, if_pos h_clone]; exact find_one _ _
  rw [if_neg h_clone, if_neg h_clone]
  by_cases h_send : c.verb = v_send
  · rw [if_pos h_send, if_pos h_send]; exact fits_send c
  rw [if_neg h_send, if_neg h_send]
  by_cases h_scrub : c.verb = v_scrub
  · rw [if_pos h_scrub, if_pos h_scrub]; exact find_one _ _
  rw [if_neg h_scrub, if_neg h_scrub]
  by_cases h_heal : c.verb = v_heal
  · rw [if_pos h_heal, if_pos h_heal]; exact find_one _ _
  rw [if_neg h_heal, if_neg h_heal]
  by_cases h_list : c.verb = v_list
  · rw [if_pos h_list, if_pos h_list]; exact find_one _ _
  rw [if_neg h_list, if_neg h_list]
  by_cases h_losses : c.verb = v_losses
  · rw [if_pos h_losses, if_pos h_losses]; exact find_one _ _
  rw [if_neg h_losses, if_neg h_losses]
  by_cases h_keep : c.verb = v_keep
  · rw [if_pos h_keep, if_pos h_keep]; exact find_one _ _
  rw [if_neg h_keep, if_neg h_keep]
  by_cases h_auto : c.verb = v_auto
  · rw [if_pos h_auto, if_pos h_auto]; exact find_one _ _
  rw [if_neg h_auto, if_neg h_auto]
  rfl

end Lx
