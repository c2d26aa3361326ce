/- command.rowOf, May. -/
import Derived.Test.YtnkhiaikdmpimaaGreatDoorCmdH
import Derived.Test.YtnkhiaikdmpimaaGreatDoorCmdI
namespace Go.Proofs.YtnkhiaikdmpimaaGreatDoor
open Go.RowKit Lx

def allRows : List (List (List Nat)) := [[[0]], [[0, 3, 4]], [[0, 3]], [[0, 3], [0, 7, 1, 3]], [[0, 1]], [[0, 1, 2]], [[0, 1], [0, 1, 8, 2]], [[]], [[0, 5, 6]], [[0, 5]], []]
theorem rowsP_mem (v : List UInt8) : rowsP v ∈ allRows := by
  unfold rowsP
  repeat' refine ite_mem ?_ ?_
  all_goals decide
theorem allRows_len : ∀ rs ∈ allRows, rs.length ≤ 2 ∧ ∀ r ∈ rs, r.length ≤ 4 ∧ ∀ p ∈ r, p ≤ 8 := by decide
theorem rows_len (v : List UInt8) : (rowsP v).length ≤ 2 := (allRows_len _ (rowsP_mem v)).1
theorem row_len (v : List UInt8) (r : List Nat) (h : r ∈ rowsP v) : r.length ≤ 4 := ((allRows_len _ (rowsP_mem v)).2 r h).1
theorem row_le (v : List UInt8) (r : List Nat) (h : r ∈ rowsP v) : ∀ p ∈ r, p ≤ 8 := ((allRows_len _ (rowsP_mem v)).2 r h).2

def RowOut (w' : World) (e : Ending) (c : Cmd) : Prop := match rowOfP c with
  | some r => ∃ v, e = .returned (.tuple #[v, .bool true]) ∧ RowAt w' v r
  | none => e = .returned (.tuple #[.slice none 0 0, .bool false])

set_option maxHeartbeats 2000000 in
set_option maxRecDepth 100000 in
theorem rowOf_any (c : Cmd) (w : World) :
    Calls Tryz.prog 14 #[encCmd c] w fun e w' => RowOut w' e c ∧ Below w.heap.size w w' := by
  have HF := Lib.hid (fun v r w => fits_any c v r w)
  have HRW := Lib.hid (fun w => rows_any c.verb w)
  have hrn := rows_len c.verb
  have HRL := Lib.hid (fun r h => row_len c.verb r h)
  have HRO : Hid (rowOfP c = (rowsP c.verb).find? (fitsP c)) := Lib.hid rfl
  rw [encCmd_eq] at HF ⊢
  generalize rowsP c.verb = rs at *
  go_enter Tryz.func14, Tryz.ntmps14
  go_wp2_with (go_at_call 26; with_reducible refine (HRW.out _).mono ?_)
  rintro e w1 ⟨v, rfl, hrs, hb1⟩
  have hbk : BoxOf w1 w.heap.size 26 c := box_below hb1
  have HB := Lib.hid (((Below.refl w.heap.size w).alloc (Nat.le_refl _) _).trans (hb1.mono (by rw [World.size_alloc]; omega)))
  have HRS := Lib.hid hrs
  have HBK := Lib.hid hbk
  obtain ⟨a, cap, rfl, hcells⟩ := hrs
  clear hbk hb1 hcells
  go_wp2_with fail
  go_loopg [10] rs.length (fun g vi wr => ∃ k : Nat, g = rs.length - k ∧ k ≤ rs.length ∧ vi = .int .i64 k ∧ rowOfP c = (rs.drop k).find? (fitsP c) ∧ RowsAt wr (.slice a rs.length cap) rs ∧ BoxOf wr w.heap.size 26 c ∧ Below w.heap.size w wr)
  case atStart => exact ⟨0, rfl, Nat.zero_le _, rfl, HRO.out, HRS.out, HBK.out, HB.out⟩
  case round =>
    obtain ⟨k, hg, hk, rfl, hfind, hrs, hbx, hbr⟩ := hrel
    have HFD := Lib.hid hfind
    have HRS2 := Lib.hid hrs
    have HBX := Lib.hid hbx
    have HBr := Lib.hid hbr
    have hsz := hbr.size
    by_cases hlt : k < rs.length
    · have hki : (k : Int) < (rs.length : Int) := by omega
      obtain ⟨a2, cap2, hv2, hcells⟩ := hrs
      injection hv2 with hv2 _ hv3
      subst hv2
      subst hv3
      obtain ⟨ad, rv, rfl, hcell, hrow⟩ := hcells k hlt
      have hdrop : rs.drop k = rs[k] :: rs.drop (k + 1) := List.drop_eq_getElem_cons hlt
      have hrl := HRL.out _ (List.getElem_mem hlt)
      rw [hdrop] at hfind
      generalize rs[k] = r at *
      have HQ := Lib.hid (HF.out rv r wr hrow (by omega))
      have HROW := Lib.hid hrow
      obtain ⟨c0, c1, c2, c3, c4, c5, c6, c7, c8, c9, c10, c11, c12⟩ := hbx.cells
      cases hfit : fitsP c r with
      | true =>
        have HRR : Hid (rowOfP c = some r) := Lib.hid (by rw [hfind, List.find?_cons, hfit])
        rw [hfit] at HQ
        obtain ⟨ar, cr, rfl, hrc⟩ := hrow
        clear hfind hdrop hbx hbr hcells hfit hrc
        go_wp2_with (go_at_call 28; with_reducible refine HQ.out.mono ?_)
        first | rintro e w2 rfl hb2 | rintro e w2 ⟨rfl, hb2⟩
        go_wp2_with fail
        go_ret2
        refine ⟨?_, HBr.out.trans (hb2.mono hsz)⟩
        unfold RowOut
        rw [HRR.out]
        exact ⟨_, rfl, HROW.out.below hb2⟩
      | false =>
        have HRR : Hid (rowOfP c = (rs.drop (k + 1)).find? (fitsP c)) := Lib.hid (by rw [hfind, List.find?_cons, hfit])
        rw [hfit] at HQ
        obtain ⟨ar, cr, rfl, hrc⟩ := hrow
        clear hfind hdrop hbx hbr hcells hfit hrc
        go_wp2_with (go_at_call 28; with_reducible refine HQ.out.mono ?_)
        first | rintro e w2 rfl hb2 | rintro e w2 ⟨rfl, hb2⟩
        go_wp2_with fail
        go_roundg (rs.length - (k + 1))
        case measure => omega
        case rel => exact ⟨k + 1, rfl, hlt, by go_num, HRR.out, HRS2.out.below hb2, HBX.out.below hb2, HBr.out.trans (hb2.mono hsz)⟩
    · have hki : ¬ (k : Int) < (rs.length : Int) := by omega
      have HRR : Hid (rowOfP c = none) := Lib.hid (by rw [HFD.out, List.drop_of_length_le (by omega)]; rfl)
      clear hfind hrs hbx hbr
      go_wp2_with fail
      go_ret2
      refine ⟨?_, HBr.out⟩
      unfold RowOut
      rw [HRR.out]
      rfl

set_option maxRecDepth 100000 in
theorem may_any (c : Cmd) (w : World) :
    Calls Tryz.prog 11 #[encCmd c] w fun e w' => e = .returned (.bool (rowOfP c).isSome) ∧ Below w.heap.size w w' := by
  have HR := Lib.hid (fun w => rowOf_any c w)
  rw [encCmd_eq] at HR ⊢
  go_enter Tryz.func11, Tryz.ntmps11
  go_wp2_with (go_at_call 14; with_reducible refine (HR.out _).mono ?_)
  rintro e w1 ⟨hro, hb1⟩
  have HB := Lib.hid (((Below.refl w.heap.size w).alloc (Nat.le_refl _) _).trans (hb1.mono (by rw [World.size_alloc]; omega)))
  unfold RowOut at hro
  cases hr : rowOfP c with
  | some r =>
    rw [hr] at hro
    obtain ⟨v, rfl, -⟩ := hro
    have HRR := Lib.hid hr
    clear hr hb1
    go_wp2_with fail
    go_ret
    rw [HRR.out]
    exact ⟨rfl, HB.out⟩
  | none =>
    rw [hr] at hro
    subst hro
    have HRR := Lib.hid hr
    clear hr hb1
    go_wp2_with fail
    go_ret
    rw [HRR.out]
    exact ⟨rfl, HB.out⟩
end Go.Proofs.YtnkhiaikdmpimaaGreatDoor
