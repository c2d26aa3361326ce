/- cauterylaw34.CommandBack: the walk. -/
import Derived.Test.YtnkhiaikdmpimaaGreatDoorCmdR
import Derived.Test.YtnkhiaikdmpimaaGreatDoorCmdO
import Derived.Test.YtnkhiaikdmpimaaGreatDoorParse
import Derived.Test.YtnkhiaikdmpimaaGreatDoorParLawC
namespace Go.Proofs.YtnkhiaikdmpimaaGreatDoor
open Go.RowKit Lx

theorem textB_len {c : Cmd} (hn : NowOk c) : (textB c).1.length ≤ 7000 := by
  unfold textB
  cases h : rowOfP c with
  | none => simp
  | some r =>
    have h2 := h
    rw [rowOf_parts] at h2
    obtain ⟨hp, hf⟩ : partsN c = some r ∧ fitsP c r = true := by
      revert h2
      cases partsN c with
      | none => intro h2; cases h2
      | some q =>
        intro h2
        obtain ⟨rfl, hf⟩ : q = r ∧ fitsP c r = true := by simpa using h2
        exact ⟨rfl, hf⟩
    have hl : r.length ≤ 4 := by
      unfold rowOfP at h
      exact row_len _ _ (List.mem_of_find?_eq_some h)
    have := textK_len (fits_bounds c r hp hf) hn r r.length hl
    unfold textK at this
    rw [List.take_length] at this
    exact this

theorem keep34 {w w0 w1 : World} {b : Nat} {c : Cmd} (hx : BoxOf w0 b 26 c) (h : Below w.heap.size w w0) (hb : Below w0.heap.size w0 w1) : BoxOf w1 b 26 c ∧ Below w.heap.size w w1 :=
  ⟨hx.below hb, h.trans (hb.mono h.size)⟩

set_option maxHeartbeats 4000000 in
set_option maxRecDepth 100000 in
theorem commandBack_walk (c : Cmd) (hn : NowOk c) (w : World) (hv : HasErr w) (ht : Tab w) :
    Calls Tryz.prog 4 #[encCmd c] w fun e w' => e = .returned (.bool true) ∧ Below w.heap.size w w' := by
  have HAL : Hid (∀ W, Below w.heap.size w W → Calls Tryz.prog 7 #[] W fun e w' => e = .returned (.bool true) ∧ Below W.heap.size W w') := Lib.hid (fun W h => alive34_any W (hv.below h) (ht.below h))
  have HSM := Lib.hid (fun w => small_any c w)
  have HTX : Hid (∀ W, Below w.heap.size w W → Calls Tryz.prog 8 #[encCmd c] W fun e w' => e = .returned (.tuple #[.string ⟨(textB c).1.toArray⟩, .int .i64 (textB c).2]) ∧ Below W.heap.size W w') := Lib.hid (fun W h => text_any c hn W (ht.below h))
  have HMY := Lib.hid (fun W => may_any c W)
  have htl := textB_len hn
  have HPR : Hid (∀ W, Below w.heap.size w W → Calls Tryz.prog 13 #[.string ⟨(textB c).1.toArray⟩] W fun e w' => e = .returned (.tuple #[encCmd (parseP (textB c).1).1, .int .i64 (parseP (textB c).1).2]) ∧ Below W.heap.size W w') := Lib.hid (fun W h => parse_any (textB c).1 (by omega) W (hv.below h) (ht.below h))
  have HPB : Hid (∀ r, rowOfP c = some r → (textB c).2 = 0 ∧ parseP (textB c).1 = if 1000 < (textB c).1.length then (Cmd.zero, 4) else (c, 0)) := Lib.hid (fun r h => ⟨by unfold textB; rw [h], parse_back h hn.1 hn.2⟩)
  clear hv ht
  rw [encCmd_eq] at HSM HTX HMY ⊢
  cases hs : smallB c with
  | false =>
    rw [hs] at HSM
    clear hs htl
    go_enter Tryz.func4, Tryz.ntmps4
    go_wp2_with (go_at_call 6; with_reducible refine (HSM.out _).mono ?_)
    first | rintro e w1 rfl hb1 | rintro e w1 ⟨rfl, hb1⟩
    have HB := Lib.hid (((Below.refl w.heap.size w).alloc (Nat.le_refl _) _).trans (hb1.mono (by first | (rw [World.size_alloc]; omega) | omega)))
    clear hb1
    go_wp2_with (go_at_call 7; with_reducible refine (HAL.out _ HB.out).mono ?_)
    first | rintro e w2 rfl hb2 | rintro e w2 ⟨rfl, hb2⟩
    go_wp2_with fail
    go_ret
    exact ⟨rfl, HB.out.trans (hb2.mono HB.out.size)⟩
  | true =>
    rw [hs] at HSM
    clear hs
    cases hr : rowOfP c with
    | none =>
      rw [hr] at HMY
      clear hr htl
      go_enter Tryz.func4, Tryz.ntmps4
      go_wp2_with (go_at_call 6; with_reducible refine (HSM.out _).mono ?_)
      first | rintro e w1 rfl hb1 | rintro e w1 ⟨rfl, hb1⟩
      have hx1 : BoxOf w1 w.heap.size 26 c := by first | exact box_below hb1 | exact box_below (by rw [World.size_alloc]; exact hb1)
      have HB1 := Lib.hid (((Below.refl w.heap.size w).alloc (Nat.le_refl _) _).trans (hb1.mono (by first | (rw [World.size_alloc]; omega) | omega)))
      obtain ⟨c0, c1, c2, c3, c4, c5, c6, c7, c8, c9, c10, c11, c12⟩ := hx1.cells
      clear hb1 hx1
      go_wp2_with (go_at_call 11; with_reducible refine (HMY.out _).mono ?_)
      first | rintro e w2 rfl hb2 | rintro e w2 ⟨rfl, hb2⟩
      have HB2 := Lib.hid (HB1.out.trans (hb2.mono HB1.out.size))
      clear hb2
      go_wp2_with (go_at_call 7; with_reducible refine (HAL.out _ HB2.out).mono ?_)
      first | rintro e w3 rfl hb3 | rintro e w3 ⟨rfl, hb3⟩
      go_wp2_with fail
      go_ret
      exact ⟨rfl, HB2.out.trans (hb3.mono HB2.out.size)⟩
    | some r =>
      obtain ⟨he, hp⟩ := HPB.out r hr
      rw [hr] at HMY
      rw [he] at HTX
      rw [hp] at HPR
      clear hr he hp HPB
      generalize (textB c).1 = tx at *
      by_cases hl : 1000 < tx.length
      · rw [if_pos hl] at HPR
        have hli : (1000 : Int) < (tx.length : Int) := by omega
        clear hl htl
        go_enter Tryz.func4, Tryz.ntmps4
        go_wp2_with (go_at_call 6; with_reducible refine (HSM.out _).mono ?_)
        first | rintro e w1 rfl hb1 | rintro e w1 ⟨rfl, hb1⟩
        have hx1 : BoxOf w1 w.heap.size 26 c := by first | exact box_below hb1 | exact box_below (by rw [World.size_alloc]; exact hb1)
        have HB1 := Lib.hid (((Below.refl w.heap.size w).alloc (Nat.le_refl _) _).trans (hb1.mono (by first | (rw [World.size_alloc]; omega) | omega)))
        have HX1 := Lib.hid hx1
        obtain ⟨c0, c1, c2, c3, c4, c5, c6, c7, c8, c9, c10, c11, c12⟩ := hx1.cells
        clear hb1 hx1
        go_wp2_with (go_at_call 11; with_reducible refine (HMY.out _).mono ?_)
        first | rintro e w2 rfl hb2 | rintro e w2 ⟨rfl, hb2⟩
        obtain ⟨hx2, hB2⟩ := keep34 HX1.out HB1.out hb2
        have HX2 := Lib.hid hx2
        have HB2 := Lib.hid hB2
        clear c0 c1 c2 c3 c4 c5 c6 c7 c8 c9 c10 c11 c12 hb2 hB2
        obtain ⟨c0, c1, c2, c3, c4, c5, c6, c7, c8, c9, c10, c11, c12⟩ := hx2.cells
        clear hx2
        go_wp2_with (go_at_call 8; with_reducible refine (HTX.out _ HB2.out).mono ?_)
        first | rintro e w3 rfl hb3 | rintro e w3 ⟨rfl, hb3⟩
        have HB3 := Lib.hid (HB2.out.trans (hb3.mono HB2.out.size))
        clear c0 c1 c2 c3 c4 c5 c6 c7 c8 c9 c10 c11 c12 hb3
        go_wp2_with (go_at_call 13; with_reducible refine (HPR.out _ HB3.out).mono ?_)
        first | rintro e w4 rfl hb4 | rintro e w4 ⟨rfl, hb4⟩
        have HB4 := Lib.hid (HB3.out.trans (hb4.mono HB3.out.size))
        have HB4A := Lib.hid (fun o => HB4.out.alloc HB4.out.size o)
        clear hb4
        rw [encCmd_eq]
        go_wp2_with (go_at_call 7; with_reducible refine (HAL.out _ (HB4A.out _)).mono ?_)
        first | rintro e w5 rfl hb5 | rintro e w5 ⟨rfl, hb5⟩
        go_wp2_with fail
        go_ret
        exact ⟨rfl, (HB4A.out _).trans (hb5.mono (HB4A.out _).size)⟩
      · rw [if_neg hl] at HPR
        have hli : ¬ (1000 : Int) < (tx.length : Int) := by omega
        clear hl htl
        go_enter Tryz.func4, Tryz.ntmps4
        go_wp2_with (go_at_call 6; with_reducible refine (HSM.out _).mono ?_)
        first | rintro e w1 rfl hb1 | rintro e w1 ⟨rfl, hb1⟩
        have hx1 : BoxOf w1 w.heap.size 26 c := by first | exact box_below hb1 | exact box_below (by rw [World.size_alloc]; exact hb1)
        have HB1 := Lib.hid (((Below.refl w.heap.size w).alloc (Nat.le_refl _) _).trans (hb1.mono (by first | (rw [World.size_alloc]; omega) | omega)))
        have HX1 := Lib.hid hx1
        obtain ⟨c0, c1, c2, c3, c4, c5, c6, c7, c8, c9, c10, c11, c12⟩ := hx1.cells
        clear hb1 hx1
        go_wp2_with (go_at_call 11; with_reducible refine (HMY.out _).mono ?_)
        first | rintro e w2 rfl hb2 | rintro e w2 ⟨rfl, hb2⟩
        obtain ⟨hx2, hB2⟩ := keep34 HX1.out HB1.out hb2
        have HX2 := Lib.hid hx2
        have HB2 := Lib.hid hB2
        clear c0 c1 c2 c3 c4 c5 c6 c7 c8 c9 c10 c11 c12 hb2 hB2
        obtain ⟨c0, c1, c2, c3, c4, c5, c6, c7, c8, c9, c10, c11, c12⟩ := hx2.cells
        clear hx2
        go_wp2_with (go_at_call 8; with_reducible refine (HTX.out _ HB2.out).mono ?_)
        first | rintro e w3 rfl hb3 | rintro e w3 ⟨rfl, hb3⟩
        obtain ⟨hx3, hB3⟩ := keep34 HX2.out HB2.out hb3
        have HX3 := Lib.hid hx3
        have HB3 := Lib.hid hB3
        clear c0 c1 c2 c3 c4 c5 c6 c7 c8 c9 c10 c11 c12 hb3 hB3 hx3
        go_wp2_with (go_at_call 13; with_reducible refine (HPR.out _ HB3.out).mono ?_)
        first | rintro e w4 rfl hb4 | rintro e w4 ⟨rfl, hb4⟩
        obtain ⟨hx4, hB4⟩ := keep34 HX3.out HB3.out hb4
        have HX4 := Lib.hid hx4
        have HB4 := Lib.hid hB4
        have HB4A := Lib.hid (fun o => hB4.alloc hB4.size o)
        have hlt4 := hx4.lt
        clear hb4 hx4 hB4
        rw [encCmd_eq]
        go_wp2_with (go_at_call 7; with_reducible refine (HAL.out _ (HB4A.out _)).mono ?_)
        first | rintro e w5 rfl hb5 | rintro e w5 ⟨rfl, hb5⟩
        have hd5 : BoxOf w5 w4.heap.size 26 c := by first | exact box_below hb5 | exact box_below (by rw [World.size_alloc]; exact hb5)
        have hx5 : BoxOf w5 w.heap.size 26 c := BoxOf.below (HX4.out.below ((Below.refl _ _).alloc (Nat.le_refl _) _)) (by first | exact hb5 | (rw [World.size_alloc]; exact hb5))
        have HB5 := Lib.hid ((HB4A.out _).trans (hb5.mono (HB4A.out _).size))
        obtain ⟨c0, c1, c2, c3, c4, c5, c6, c7, c8, c9, c10, c11, c12⟩ := hx5.cells
        obtain ⟨d0, d1, d2, d3, d4, d5, d6, d7, d8, d9, d10, d11, d12⟩ := hd5.cells
        clear hb5 hx5 hd5
        go_wp2_with fail
        go_ret
        exact ⟨rfl, HB5.out⟩
end Go.Proofs.YtnkhiaikdmpimaaGreatDoor
