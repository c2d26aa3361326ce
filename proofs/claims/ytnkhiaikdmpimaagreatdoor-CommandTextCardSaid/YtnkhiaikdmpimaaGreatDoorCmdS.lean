/- cauterylaw34.CommandText: the walk. -/
import Derived.Test.YtnkhiaikdmpimaaGreatDoorCmdR
import Derived.Deep.RegionHeld3
namespace Go.Proofs.YtnkhiaikdmpimaaGreatDoor
open Go.RowKit Lx

theorem s34_call {w w0 w1 : World} {c : Cmd} (hx : BoxOf w0 w.heap.size 26 c) (h : Below w.heap.size w w0) (hb : Below w0.heap.size w0 w1) : BoxOf w1 w.heap.size 26 c ∧ Below w.heap.size w w1 :=
  ⟨hx.below hb, h.trans (hb.mono h.size)⟩

theorem s34_keep {w w' : World} {c : Cmd} (hx : BoxOf w' w.heap.size 26 c) (h : Below w.heap.size w w') : w'.cell? ⟨w.heap.size, 0, none⟩ = some (.bool c.second) ∧ w'.cell? ⟨w.heap.size, 1, none⟩ = some (.string ⟨c.verb.toArray⟩) ∧ w'.cell? ⟨w.heap.size, 2, none⟩ = some (.string ⟨c.set.toArray⟩) ∧ w'.cell? ⟨w.heap.size, 3, none⟩ = some (.string ⟨c.snap.toArray⟩) ∧ w'.cell? ⟨w.heap.size, 4, none⟩ = some (.string ⟨c.other.toArray⟩) ∧ w'.cell? ⟨w.heap.size, 5, none⟩ = some (.string ⟨c.text.toArray⟩) ∧ w'.cell? ⟨w.heap.size, 6, none⟩ = some (.int .i64 c.cell) ∧ w'.cell? ⟨w.heap.size, 7, none⟩ = some (.int .u64 c.now) ∧ w'.cell? ⟨w.heap.size, 8, none⟩ = some (.int .i64 c.keep.last) ∧ w'.cell? ⟨w.heap.size, 9, none⟩ = some (.int .i64 c.keep.hours) ∧ w'.cell? ⟨w.heap.size, 10, none⟩ = some (.int .i64 c.keep.days) ∧ w'.cell? ⟨w.heap.size, 11, none⟩ = some (.int .i64 c.keep.weeks) ∧ w'.cell? ⟨w.heap.size, 12, none⟩ = some (.int .i64 c.keep.months) ∧ Below w.heap.size w w' :=
  ⟨box_at hx 0 _ rfl, box_at hx 1 _ rfl, box_at hx 2 _ rfl, box_at hx 3 _ rfl, box_at hx 4 _ rfl, box_at hx 5 _ rfl, box_at hx 6 _ rfl, box_at hx 7 _ rfl, box_at hx 8 _ rfl, box_at hx 9 _ rfl, box_at hx 10 _ rfl, box_at hx 11 _ rfl, box_at hx 12 _ rfl, h⟩

set_option maxHeartbeats 4000000 in
set_option maxRecDepth 100000 in
theorem commandText_walk (c : Cmd) (hn : NowOk c) (w : World) (hv : HasErr w) (ht : Tab w) :
    Calls Tryz.prog 3 #[encCmd c] w fun e w' => e = .returned (.bool true) ∧ Below w.heap.size w w' := by
  have HAL : Hid (∀ W, Below w.heap.size w W → Calls Tryz.prog 7 #[] W fun e w' => e = .returned (.bool true) ∧ Below W.heap.size W w') := Lib.hid (fun W h => alive34_any W (hv.below h) (ht.below h))
  have HSM := Lib.hid (fun w => small_any c w)
  have HTX : Hid (∀ W, Below w.heap.size w W → Calls Tryz.prog 8 #[encCmd c] W fun e w' => e = .returned (.tuple #[.string ⟨(textB c).1.toArray⟩, .int .i64 (textB c).2]) ∧ Below W.heap.size W w') := Lib.hid (fun W h => text_any c hn W (ht.below h))
  have HRT := Lib.hid (fun W => rtext_any c hn W)
  have HPL := Lib.hid (fun W => plain_any c W)
  have HRM := Lib.hid (fun W => rmay_any c W)
  have HMY : Hid (∀ W, Calls Tryz.prog 11 #[encCmd c] W fun e w' => e = .returned (.bool (mayN c)) ∧ Below W.heap.size W w') := Lib.hid (fun W => by have h := may_any c W; rwa [rowOf_may] at h)
  clear hv ht
  generalize (textB c).1 = tx at *
  generalize (textB c).2 = er at *
  generalize mayN c = my at *
  rw [encCmd_eq] at HSM HTX HRT HPL HRM HMY ⊢
  cases hs : smallB c with
  | false =>
    rw [hs] at HSM
    clear hs
    go_enter Tryz.func3, Tryz.ntmps3
    go_wp2_with (go_at_call 6; with_reducible refine (HSM.out _).mono ?_)
    first | rintro e w1 rfl hb1 | rintro e w1 ⟨rfl, hb1⟩
    have hB := ((Below.refl w.heap.size w).alloc (Nat.le_refl _) _).trans (hb1.mono (by rw [World.size_alloc]; omega))
    have HB := Lib.hid hB
    clear hb1 hB
    go_wp2_with (go_at_call 7; with_reducible refine (HAL.out _ HB.out).mono ?_)
    first | rintro e w2 rfl hb2 | rintro e w2 ⟨rfl, hb2⟩
    go_wp2_with fail
    go_ret
    exact ⟨rfl, HB.out.trans (hb2.mono HB.out.size)⟩
  | true =>
    rw [hs] at HSM
    clear hs
    go_enter Tryz.func3, Tryz.ntmps3
    go_wp2_with (go_at_call 6; with_reducible refine (HSM.out _).mono ?_)
    first | rintro e w1 rfl hb1 | rintro e w1 ⟨rfl, hb1⟩
    have hx1 : BoxOf w1 w.heap.size 26 c := box_below hb1
    have hB1 := ((Below.refl w.heap.size w).alloc (Nat.le_refl _) _).trans (hb1.mono (by rw [World.size_alloc]; omega))
    have HB1 := Lib.hid hB1
    have HX1 := Lib.hid hx1
    obtain ⟨c0, c1, c2, c3, c4, c5, c6, c7, c8, c9, c10, c11, c12⟩ := hx1.cells
    clear hb1 hB1 hx1
    go_wp2_with (go_at_call 8; with_reducible refine (HTX.out _ HB1.out).mono ?_)
    first | rintro e w2 rfl hb2 | rintro e w2 ⟨rfl, hb2⟩
    obtain ⟨hx2, hB2⟩ := s34_call HX1.out HB1.out hb2
    have HB2 := Lib.hid hB2
    have HX2 := Lib.hid hx2
    clear c0 c1 c2 c3 c4 c5 c6 c7 c8 c9 c10 c11 c12 hb2 hB2
    obtain ⟨c0, c1, c2, c3, c4, c5, c6, c7, c8, c9, c10, c11, c12⟩ := hx2.cells
    clear hx2
    go_wp2_with (go_at_call 10; with_reducible refine (HPL.out _).mono ?_)
    first | rintro e w3 rfl hb3 | rintro e w3 ⟨rfl, hb3⟩
    obtain ⟨hx3, hB3⟩ := s34_call HX2.out HB2.out hb3
    have HB3 := Lib.hid hB3
    have HX3 := Lib.hid hx3
    clear c0 c1 c2 c3 c4 c5 c6 c7 c8 c9 c10 c11 c12 hb3 hB3 hx3
    go_wp2_with (go_at_call 9; with_reducible refine (HRT.out _).mono ?_)
    first | rintro e w4 rfl hb4 | rintro e w4 ⟨rfl, hb4⟩
    obtain ⟨hx4, hB4⟩ := s34_call HX3.out HB3.out hb4
    clear hb4
    have x4 : BoxOf w4.drew w.heap.size 26 c := hx4
    have b4 : Below w.heap.size w w4.drew := bdrew hB4 1
    clear hx4 hB4
    go_wp2_with fail
    go_region_held3 (fun w' => w'.cell? ⟨w.heap.size, 0, none⟩ = some (.bool c.second) ∧ w'.cell? ⟨w.heap.size, 1, none⟩ = some (.string ⟨c.verb.toArray⟩) ∧ w'.cell? ⟨w.heap.size, 2, none⟩ = some (.string ⟨c.set.toArray⟩) ∧ w'.cell? ⟨w.heap.size, 3, none⟩ = some (.string ⟨c.snap.toArray⟩) ∧ w'.cell? ⟨w.heap.size, 4, none⟩ = some (.string ⟨c.other.toArray⟩) ∧ w'.cell? ⟨w.heap.size, 5, none⟩ = some (.string ⟨c.text.toArray⟩) ∧ w'.cell? ⟨w.heap.size, 6, none⟩ = some (.int .i64 c.cell) ∧ w'.cell? ⟨w.heap.size, 7, none⟩ = some (.int .u64 c.now) ∧ w'.cell? ⟨w.heap.size, 8, none⟩ = some (.int .i64 c.keep.last) ∧ w'.cell? ⟨w.heap.size, 9, none⟩ = some (.int .i64 c.keep.hours) ∧ w'.cell? ⟨w.heap.size, 10, none⟩ = some (.int .i64 c.keep.days) ∧ w'.cell? ⟨w.heap.size, 11, none⟩ = some (.int .i64 c.keep.weeks) ∧ w'.cell? ⟨w.heap.size, 12, none⟩ = some (.int .i64 c.keep.months) ∧ Below w.heap.size w w')
      (first | exact s34_keep (by assumption) (by assumption))
      (first
      | (go_at_call 7; with_reducible refine (HAL.out _ ?hw).mono ?_; (case hw => assumption); rintro e wa ⟨rfl, hba⟩; have hA := s34_call (by assumption) (by assumption) hba; obtain ⟨xa, ba⟩ := hA)
      | (go_at_call 11; with_reducible refine (HMY.out _).mono ?_; rintro e wm ⟨rfl, hbm⟩; have hM := s34_call (by assumption) (by assumption) hbm; obtain ⟨xm, bm⟩ := hM)
      | (go_at_call 10; with_reducible refine (HPL.out _).mono ?_; rintro e wp ⟨rfl, hbp⟩; have hP := s34_call (by assumption) (by assumption) hbp; obtain ⟨xp, bp⟩ := hP)
      | (go_at_call 12; with_reducible refine (HRM.out _).mono ?_; rintro e wr ⟨rfl, hbr⟩; have hR := s34_call (by assumption) (by assumption) hbr; obtain ⟨xr, br⟩ := hR))
    all_goals
      go_wp2_with fail
      go_ret
      exact ⟨rfl, by assumption⟩
end Go.Proofs.YtnkhiaikdmpimaaGreatDoor
