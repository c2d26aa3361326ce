/- Command.fits. -/
import Derived.Test.YtnkhiaikdmpimaaGreatDoorCmdG
namespace Go.Proofs.YtnkhiaikdmpimaaGreatDoor
open Go.RowKit Lx

set_option maxHeartbeats 4000000 in
set_option maxRecDepth 100000 in
theorem fits_any (c : Cmd) (v : Value) (r : List Nat) (w : World) (hr : RowAt w v r) (hl : r.length ≤ 1000) :
    Calls Tryz.prog 28 #[encCmd c, v] w fun e w' => e = .returned (.bool (fitsP c r)) ∧ Below w.heap.size w w' := by
  obtain ⟨sc, vb, st, sn, ot, tx, cl, nw, kp⟩ := c
  obtain ⟨k1, k2, k3, k4, k5⟩ := kp
  have he : encCmd ⟨sc, vb, st, sn, ot, tx, cl, nw, ⟨k1, k2, k3, k4, k5⟩⟩ = .agg #[.bool sc, .string ⟨vb.toArray⟩, .string ⟨st.toArray⟩, .string ⟨sn.toArray⟩, .string ⟨ot.toArray⟩, .string ⟨tx.toArray⟩, .int .i64 cl, .int .u64 nw, .int .i64 k1, .int .i64 k2, .int .i64 k3, .int .i64 k4, .int .i64 k5] := rfl
  rw [he]
  clear he
  have HR : ∀ o, RowAt (w.alloc o) v r := fun o => hr.below ((Below.refl _ _).alloc (Nat.le_refl _) _)
  have HW := Lib.hid (fun o => (Below.refl w.heap.size w).alloc (Nat.le_refl _) o)
  have HX := Lib.hid (HR (.cells #[.bool sc, .string ⟨vb.toArray⟩, .string ⟨st.toArray⟩, .string ⟨sn.toArray⟩, .string ⟨ot.toArray⟩, .string ⟨tx.toArray⟩, .int .i64 cl, .int .u64 nw, .int .i64 k1, .int .i64 k2, .int .i64 k3, .int .i64 k4, .int .i64 k5] 26))
  have HA : ∀ (p : Nat) W, RowAt W v r → Calls Tryz.prog 44 #[v, .int .u8 (p : Int)] W fun e w' => e = .returned (.bool (hasP r p)) ∧ W = w' := fun p W h => has_any v r p W h hl
  have H0 : Hid (∀ W, RowAt W v r → Calls Tryz.prog 44 #[v, .int .u8 0] W fun e w' => e = .returned (.bool (hasP r 0)) ∧ W = w') := Lib.hid (fun W h => by have h2 := HA 0 W h; rwa [show ((0 : Nat) : Int) = 0 from rfl] at h2)
  have H1 : Hid (∀ W, RowAt W v r → Calls Tryz.prog 44 #[v, .int .u8 1] W fun e w' => e = .returned (.bool (hasP r 1)) ∧ W = w') := Lib.hid (fun W h => by have h2 := HA 1 W h; rwa [show ((1 : Nat) : Int) = 1 from rfl] at h2)
  have H2 : Hid (∀ W, RowAt W v r → Calls Tryz.prog 44 #[v, .int .u8 2] W fun e w' => e = .returned (.bool (hasP r 2)) ∧ W = w') := Lib.hid (fun W h => by have h2 := HA 2 W h; rwa [show ((2 : Nat) : Int) = 2 from rfl] at h2)
  have H3 : Hid (∀ W, RowAt W v r → Calls Tryz.prog 44 #[v, .int .u8 3] W fun e w' => e = .returned (.bool (hasP r 3)) ∧ W = w') := Lib.hid (fun W h => by have h2 := HA 3 W h; rwa [show ((3 : Nat) : Int) = 3 from rfl] at h2)
  have H4 : Hid (∀ W, RowAt W v r → Calls Tryz.prog 44 #[v, .int .u8 4] W fun e w' => e = .returned (.bool (hasP r 4)) ∧ W = w') := Lib.hid (fun W h => by have h2 := HA 4 W h; rwa [show ((4 : Nat) : Int) = 4 from rfl] at h2)
  have H5 : Hid (∀ W, RowAt W v r → Calls Tryz.prog 44 #[v, .int .u8 5] W fun e w' => e = .returned (.bool (hasP r 5)) ∧ W = w') := Lib.hid (fun W h => by have h2 := HA 5 W h; rwa [show ((5 : Nat) : Int) = 5 from rfl] at h2)
  have H6 : Hid (∀ W, RowAt W v r → Calls Tryz.prog 44 #[v, .int .u8 6] W fun e w' => e = .returned (.bool (hasP r 6)) ∧ W = w') := Lib.hid (fun W h => by have h2 := HA 6 W h; rwa [show ((6 : Nat) : Int) = 6 from rfl] at h2)
  have HM : Hid (fitsP ⟨sc, vb, st, sn, ot, tx, cl, nw, ⟨k1, k2, k3, k4, k5⟩⟩ r = (nameB st (hasP r 0) && nameB sn (hasP r 1) && nameB ot (hasP r 2) &&
      (decide (tx.length ≤ 256) && (tx.isEmpty || hasP r 4)) && (decide (0 ≤ cl) && decide (cl < 16) && (cl == 0 || hasP r 3)) && (nw == 0 || hasP r 5) &&
      (polB ⟨k1, k2, k3, k4, k5⟩ && ((⟨k1, k2, k3, k4, k5⟩ : Pol) == Pol.zero || hasP r 6)))) := Lib.hid rfl
  generalize fitsP ⟨sc, vb, st, sn, ot, tx, cl, nw, ⟨k1, k2, k3, k4, k5⟩⟩ r = F at *
  clear HR HA hr hl
  generalize hasP r 0 = b0 at *; generalize hasP r 1 = b1 at *; generalize hasP r 2 = b2 at *; generalize hasP r 3 = b3 at *
  generalize hasP r 4 = b4 at *; generalize hasP r 5 = b5 at *; generalize hasP r 6 = b6 at *
  have N0 := Lib.hid (fun w => isName_any st b0 w); have N1 := Lib.hid (fun w => isName_any sn b1 w); have N2 := Lib.hid (fun w => isName_any ot b2 w)
  generalize nameB st b0 = n0 at *; generalize nameB sn b1 = n1 at *; generalize nameB ot b2 = n2 at *
  have hT : ∃ T, T = (decide (tx.length ≤ 256) && (tx.isEmpty || b4)) := ⟨_, rfl⟩
  obtain ⟨T, hT⟩ := hT
  have ET := Lib.hid hT
  have hC : ∃ C, C = (decide (0 ≤ cl) && decide (cl < 16) && (cl == 0 || b3)) := ⟨_, rfl⟩
  obtain ⟨C, hC⟩ := hC
  have EC := Lib.hid hC
  have hU : ∃ U, U = (nw == 0 || b5) := ⟨_, rfl⟩
  obtain ⟨U, hU⟩ := hU
  have EU := Lib.hid hU
  have hK : ∃ K, K = ((⟨k1, k2, k3, k4, k5⟩ : Pol) == Pol.zero || b6) := ⟨_, rfl⟩
  obtain ⟨K, hK⟩ := hK
  have EK := Lib.hid hK
  have HP := Lib.hid (fun w => isPolicy_any k1 k2 k3 k4 k5 w)
  have HM2 : Hid (F = (n0 && n1 && n2 && T && C && U && (polB ⟨k1, k2, k3, k4, k5⟩ && K))) := Lib.hid (by rw [HM.out, hT, hC, hU, hK])
  generalize polB ⟨k1, k2, k3, k4, k5⟩ = pb at *
  clear hT hC hU hK HM
  go_enter Tryz.func28, Tryz.ntmps28
  cases n0 with
  | false =>
    have HF : Hid (F = false) := Lib.hid (by rw [HM2.out]; simp)
    go_wp2_with fail
    go_quiet (first | (go_at_call 44; first | with_reducible exact qleft (H0.out _ (HX.out.drewN _)) | with_reducible exact qleft_add (H0.out _ (HX.out.drewN _)) | with_reducible exact qleft (H0.out _ HX.out)) | (go_at_call 43; first | with_reducible exact qleft (N0.out _) | with_reducible exact qleft_add (N0.out _)))
    go_wp2_with fail
    go_ret
    rw [HF.out]
    first | exact ⟨rfl, bdrew (HW.out _) _⟩ | exact ⟨rfl, bdrew (bdrew (HW.out _) _) _⟩ | exact ⟨rfl, bdrew (bdrew (bdrew (HW.out _) _) _) _⟩
  | true =>
    go_wp2_with fail
    go_quiet (first | (go_at_call 44; first | with_reducible exact qleft (H0.out _ (HX.out.drewN _)) | with_reducible exact qleft_add (H0.out _ (HX.out.drewN _)) | with_reducible exact qleft (H0.out _ HX.out)) | (go_at_call 43; first | with_reducible exact qleft (N0.out _) | with_reducible exact qleft_add (N0.out _)))
    go_wp2_with fail
    cases n1 with
    | false =>
      have HF : Hid (F = false) := Lib.hid (by rw [HM2.out]; simp)
      skip
      go_quiet (first | (go_at_call 44; first | with_reducible exact qleft (H1.out _ (HX.out.drewN _)) | with_reducible exact qleft_add (H1.out _ (HX.out.drewN _)) | with_reducible exact qleft (H1.out _ HX.out)) | (go_at_call 43; first | with_reducible exact qleft (N1.out _) | with_reducible exact qleft_add (N1.out _)))
      go_wp2_with fail
      go_ret
      rw [HF.out]
      first | exact ⟨rfl, bdrew (HW.out _) _⟩ | exact ⟨rfl, bdrew (bdrew (HW.out _) _) _⟩ | exact ⟨rfl, bdrew (bdrew (bdrew (HW.out _) _) _) _⟩
    | true =>
      go_quiet (first | (go_at_call 44; first | with_reducible exact qleft (H1.out _ (HX.out.drewN _)) | with_reducible exact qleft_add (H1.out _ (HX.out.drewN _)) | with_reducible exact qleft (H1.out _ HX.out)) | (go_at_call 43; first | with_reducible exact qleft (N1.out _) | with_reducible exact qleft_add (N1.out _)))
      go_wp2_with fail
      cases n2 with
      | false =>
        have HF : Hid (F = false) := Lib.hid (by rw [HM2.out]; simp)
        skip
        go_quiet (first | (go_at_call 44; first | with_reducible exact qleft (H2.out _ (HX.out.drewN _)) | with_reducible exact qleft_add (H2.out _ (HX.out.drewN _)) | with_reducible exact qleft (H2.out _ HX.out)) | (go_at_call 43; first | with_reducible exact qleft (N2.out _) | with_reducible exact qleft_add (N2.out _)))
        go_wp2_with fail
        go_ret
        rw [HF.out]
        first | exact ⟨rfl, bdrew (HW.out _) _⟩ | exact ⟨rfl, bdrew (bdrew (HW.out _) _) _⟩ | exact ⟨rfl, bdrew (bdrew (bdrew (HW.out _) _) _) _⟩
      | true =>
        go_quiet (first | (go_at_call 44; first | with_reducible exact qleft (H2.out _ (HX.out.drewN _)) | with_reducible exact qleft_add (H2.out _ (HX.out.drewN _)) | with_reducible exact qleft (H2.out _ HX.out)) | (go_at_call 43; first | with_reducible exact qleft (N2.out _) | with_reducible exact qleft_add (N2.out _)))
        go_upto_region 5 with fail
        have HM3 : Hid (F = (T && C && U && (pb && K))) := Lib.hid (by rw [HM2.out]; rfl)
        go_cut [24] (fun c wx => c = .bool (!T) ∧ ∃ n, wx = (World.drewN (w.alloc (.cells #[.bool sc, .string ⟨vb.toArray⟩, .string ⟨st.toArray⟩, .string ⟨sn.toArray⟩, .string ⟨ot.toArray⟩, .string ⟨tx.toArray⟩, .int .i64 cl, .int .u64 nw, .int .i64 k1, .int .i64 k2, .int .i64 k3, .int .i64 k4, .int .i64 k5] 26)) n))
        case first =>
          by_cases h1 : 256 < tx.length
          · have g1 : (256 : Int) < (tx.length : Int) := by omega
            have HT : Hid (T = false) := Lib.hid (by rw [ET.out, decide_eq_false (by omega)]; rfl)
            go_wp2_with fail
            go_meet
            exact ⟨by rw [HT.out]; rfl, _, rfl⟩
          · have g1 : decide ((256 : Int) < (tx.length : Int)) = false := by simp; omega
            have EW : Hid (T = (tx.isEmpty || b4)) := Lib.hid (by rw [ET.out, decide_eq_true (by omega)]; rfl)
            have G1 := Lib.hid h1
            clear h1
            obtain rfl | ⟨x, l, rfl⟩ : tx = [] ∨ ∃ x l, tx = x :: l := by cases tx <;> simp
            · clear g1
              have HT : Hid (T = true) := Lib.hid (by rw [EW.out]; rfl)
              go_wp2_with fail
              go_meet
              exact ⟨by rw [HT.out]; rfl, _, rfl⟩
            · have g1' : decide ((256 : Int) < (l.length : Int) + 1) = false := by have := G1.out; simp only [List.length_cons] at this; simp; omega
              clear g1
              cases b4 with
              | false =>
                have HT : Hid (T = false) := Lib.hid (by rw [EW.out]; rfl)
                go_wp2_with (go_at_call 44; first | (with_reducible refine (H4.out _ (HX.out.drewN _)).mono ?_; rintro e w' ⟨rfl, rfl⟩))
                go_meet
                exact ⟨by rw [HT.out]; rfl, _, rfl⟩
              | true =>
                have HT : Hid (T = true) := Lib.hid (by rw [EW.out]; simp)
                go_wp2_with (go_at_call 44; first | (with_reducible refine (H4.out _ (HX.out.drewN _)).mono ?_; rintro e w' ⟨rfl, rfl⟩))
                go_meet
                exact ⟨by rw [HT.out]; rfl, _, rfl⟩
        case rest =>
          obtain ⟨rfl, n, rfl⟩ := hcut
          cases T with
          | false =>
            have HF : Hid (F = false) := Lib.hid (by rw [HM3.out]; simp)
            go_wp2_with fail
            go_ret
            rw [HF.out]
            exact ⟨rfl, bdrew (HW.out _) _⟩
          | true =>
            have HM3 : Hid (F = (C && U && (pb && K))) := Lib.hid (by rw [HM3.out]; rfl)
            go_upto_region 7 with fail
            go_cut [39] (fun c wx => c = .bool (!C) ∧ ∃ n, wx = (World.drewN (w.alloc (.cells #[.bool sc, .string ⟨vb.toArray⟩, .string ⟨st.toArray⟩, .string ⟨sn.toArray⟩, .string ⟨ot.toArray⟩, .string ⟨tx.toArray⟩, .int .i64 cl, .int .u64 nw, .int .i64 k1, .int .i64 k2, .int .i64 k3, .int .i64 k4, .int .i64 k5] 26)) n))
            case first =>
              by_cases h2 : cl < 0
              ·
                have HT : Hid (C = false) := Lib.hid (by rw [EC.out, decide_eq_false (show ¬ 0 ≤ cl by omega)]; rfl)
                go_wp2_with fail
                go_meet
                exact ⟨by rw [HT.out]; rfl, _, rfl⟩
              · have g2 : decide (cl < 0) = false := decide_eq_false h2
                by_cases h3 : 16 ≤ cl
                ·
                  clear h2
                  have HT : Hid (C = false) := Lib.hid (by rw [EC.out, decide_eq_false (show ¬ cl < 16 by omega)]; simp)
                  go_wp2_with fail
                  go_meet
                  exact ⟨by rw [HT.out]; rfl, _, rfl⟩
                · have g3 : decide (16 ≤ cl) = false := decide_eq_false h3
                  have EY : Hid (C = (cl == 0 || b3)) := Lib.hid (by rw [EC.out, decide_eq_true (show 0 ≤ cl by omega), decide_eq_true (show cl < 16 by omega)]; rfl)
                  clear h2 h3
                  obtain rfl | ⟨h4, rfl⟩ | ⟨h4, rfl⟩ : cl = 0 ∨ (cl ≠ 0 ∧ b3 = true) ∨ (cl ≠ 0 ∧ b3 = false) := by cases b3 <;> simp <;> omega
                  · clear g2 g3
                    have HT : Hid (C = true) := Lib.hid (by rw [EY.out]; rfl)
                    go_wp2_with fail
                    go_meet
                    exact ⟨by rw [HT.out]; rfl, _, rfl⟩
                  ·
                    have HT : Hid (C = true) := Lib.hid (by rw [EY.out]; simp)
                    go_wp2_with (go_at_call 44; first | (with_reducible refine (H3.out _ (HX.out.drewN _)).mono ?_; rintro e w' ⟨rfl, rfl⟩))
                    go_meet
                    exact ⟨by rw [HT.out]; rfl, _, rfl⟩
                  ·
                    have HT : Hid (C = false) := Lib.hid (by rw [EY.out]; simp [h4])
                    go_wp2_with (go_at_call 44; first | (with_reducible refine (H3.out _ (HX.out.drewN _)).mono ?_; rintro e w' ⟨rfl, rfl⟩))
                    go_meet
                    exact ⟨by rw [HT.out]; first | rfl | simp [h4], _, rfl⟩
            case rest =>
              obtain ⟨rfl, n, rfl⟩ := hcut
              cases C with
              | false =>
                have HF : Hid (F = false) := Lib.hid (by rw [HM3.out]; simp)
                go_wp2_with fail
                go_ret
                rw [HF.out]
                exact ⟨rfl, bdrew (HW.out _) _⟩
              | true =>
                have HM3 : Hid (F = (U && (pb && K))) := Lib.hid (by rw [HM3.out]; rfl)
                go_upto_region 9 with fail
                go_cut [58] (fun c wx => c = .bool (!U) ∧ ∃ n, wx = (World.drewN (w.alloc (.cells #[.bool sc, .string ⟨vb.toArray⟩, .string ⟨st.toArray⟩, .string ⟨sn.toArray⟩, .string ⟨ot.toArray⟩, .string ⟨tx.toArray⟩, .int .i64 cl, .int .u64 nw, .int .i64 k1, .int .i64 k2, .int .i64 k3, .int .i64 k4, .int .i64 k5] 26)) n))
                case first =>
                  obtain rfl | ⟨h4, rfl⟩ | ⟨h4, rfl⟩ : nw = 0 ∨ (nw ≠ 0 ∧ b5 = true) ∨ (nw ≠ 0 ∧ b5 = false) := by cases b5 <;> simp <;> omega
                  ·
                    have HT : Hid (U = true) := Lib.hid (by rw [EU.out]; rfl)
                    go_wp2_with fail
                    go_meet
                    exact ⟨by rw [HT.out]; rfl, _, rfl⟩
                  ·
                    have HT : Hid (U = true) := Lib.hid (by rw [EU.out]; simp)
                    go_wp2_with (go_at_call 44; first | (with_reducible refine (H5.out _ (HX.out.drewN _)).mono ?_; rintro e w' ⟨rfl, rfl⟩))
                    go_meet
                    exact ⟨by rw [HT.out]; rfl, _, rfl⟩
                  ·
                    have HT : Hid (U = false) := Lib.hid (by rw [EU.out]; simp [h4])
                    go_wp2_with (go_at_call 44; first | (with_reducible refine (H5.out _ (HX.out.drewN _)).mono ?_; rintro e w' ⟨rfl, rfl⟩))
                    go_meet
                    exact ⟨by rw [HT.out]; first | rfl | simp [h4], _, rfl⟩
                case rest =>
                  obtain ⟨rfl, n, rfl⟩ := hcut
                  cases U with
                  | false =>
                    have HF : Hid (F = false) := Lib.hid (by rw [HM3.out]; simp)
                    go_wp2_with fail
                    go_ret
                    rw [HF.out]
                    exact ⟨rfl, bdrew (HW.out _) _⟩
                  | true =>
                    have HM3 : Hid (F = (pb && K)) := Lib.hid (by rw [HM3.out]; rfl)
                    cases pb with
                    | false =>
                      have HF : Hid (F = false) := Lib.hid (by rw [HM3.out]; rfl)
                      go_wp2_with (go_at_call 45; with_reducible refine (HP.out _).mono ?_)
                      first | rintro e w1 rfl hb1 | rintro e w1 ⟨rfl, hb1⟩
                      go_wp2_with fail
                      go_ret
                      rw [HF.out]
                      exact ⟨rfl, (bdrew (HW.out _) _).trans (hb1.mono (by simp))⟩
                    | true =>
                      have HF : Hid (F = K) := Lib.hid (by rw [HM3.out]; rfl)
                      go_wp2_with (go_at_call 45; with_reducible refine (HP.out _).mono ?_)
                      first | rintro e w1 rfl hb1 | rintro e w1 ⟨rfl, hb1⟩
                      have c8 : w1.cell? ⟨w.heap.size, 8, none⟩ = some (.int .i64 k1) := kept_one (by simp) hb1
                      have c9 : w1.cell? ⟨w.heap.size, 9, none⟩ = some (.int .i64 k2) := kept_one (by simp) hb1
                      have c10 : w1.cell? ⟨w.heap.size, 10, none⟩ = some (.int .i64 k3) := kept_one (by simp) hb1
                      have c11 : w1.cell? ⟨w.heap.size, 11, none⟩ = some (.int .i64 k4) := kept_one (by simp) hb1
                      have c12 : w1.cell? ⟨w.heap.size, 12, none⟩ = some (.int .i64 k5) := kept_one (by simp) hb1
                      have HX1 := Lib.hid ((HX.out.drewN _).below hb1)
                      have HB1 := Lib.hid ((bdrew (HW.out _) _).trans (hb1.mono (by simp)))
                      clear hb1
                      have hz : (k1 = 0 ∧ k2 = 0 ∧ k3 = 0 ∧ k4 = 0 ∧ k5 = 0) ∨ k1 ≠ 0 ∨ (k1 = 0 ∧ k2 ≠ 0) ∨ (k1 = 0 ∧ k2 = 0 ∧ k3 ≠ 0) ∨ (k1 = 0 ∧ k2 = 0 ∧ k3 = 0 ∧ k4 ≠ 0) ∨ (k1 = 0 ∧ k2 = 0 ∧ k3 = 0 ∧ k4 = 0 ∧ k5 ≠ 0) := by omega
                      obtain ⟨rfl, rfl, rfl, rfl, rfl⟩ | h | ⟨rfl, h⟩ | ⟨rfl, rfl, h⟩ | ⟨rfl, rfl, rfl, h⟩ | ⟨rfl, rfl, rfl, rfl, h⟩ := hz
                      all_goals go_wp2_with (go_at_call 44; with_reducible refine (H6.out _ HX1.out).mono ?_; rintro e w' ⟨rfl, rfl⟩)
                      all_goals go_ret
                      all_goals refine ⟨?_, HB1.out⟩
                      all_goals rw [HF.out, EK.out]
                      all_goals first | rfl | (rw [pol_zero_ne _ _ _ _ _ (by simp [h])]; rfl)
end Go.Proofs.YtnkhiaikdmpimaaGreatDoor
