/- cauteryref34.May. -/
import Derived.Test.YtnkhiaikdmpimaaGreatDoorCmdB
import Derived.Deep.DeepCutAuto
import Derived.Deep.CutBlock
namespace Go.Proofs.YtnkhiaikdmpimaaGreatDoor
open Go.RowKit Lx

def mayN (c : Cmd) : Bool := match partsN c with | some r => fitsP c r | none => false
theorem ite_mem {α : Type} {l : List α} {p : Prop} [Decidable p] {a b : α} (ha : a ∈ l) (hb : b ∈ l) : (if p then a else b) ∈ l := by
  by_cases h : p
  · rw [if_pos h]; exact ha
  · rw [if_neg h]; exact hb
def allParts : List (Option (List Nat)) := [none, some [0], some [0, 3, 4], some [0, 3], some [0, 7, 1, 3], some [0, 1], some [0, 1, 2], some [0, 1, 8, 2], some [], some [0, 5, 6], some [0, 5]]
theorem partsN_mem (c : Cmd) : partsN c ∈ allParts := by
  unfold partsN
  repeat' refine ite_mem ?_ ?_
  all_goals decide
theorem partsN_le (c : Cmd) (r : List Nat) (h : partsN c = some r) : ∀ x ∈ r, x ≤ 8 := by
  have hm := partsN_mem c
  rw [h] at hm
  have : ∀ o ∈ allParts, ∀ r, o = some r → ∀ x ∈ r, x ≤ 8 := by
    intro o ho
    simp only [allParts, List.mem_cons, List.not_mem_nil, or_false] at ho
    rcases ho with rfl | rfl | rfl | rfl | rfl | rfl | rfl | rfl | rfl | rfl | rfl <;> intro r hr <;> (try cases hr) <;> decide
  exact this _ hm r rfl
theorem has_letter (r : List Nat) (hr : ∀ x ∈ r, x ≤ 8) (k : Nat) (hk : k ≤ 8) : (r.map letter).any (· == letter k) = hasP r k := by
  unfold hasP
  rw [List.any_map]
  have hi : ∀ a b : Fin 9, (letter a.val == letter b.val) = (a.val == b.val) := by decide +kernel
  induction r with
  | nil => rfl
  | cons x r ih =>
    have h1 := hi ⟨x, by have := hr x (by simp); omega⟩ ⟨k, by omega⟩
    simp only [List.any_cons, Function.comp_apply]
    rw [ih (fun y hy => hr y (by simp [hy]))]
    simp only at h1
    rw [h1]
theorem parts_len (c : Cmd) (r : List Nat) (h : partsN c = some r) : r.length ≤ 4 := by
  have hm := partsN_mem c
  rw [h] at hm
  have : ∀ o ∈ allParts, ∀ r, o = some r → r.length ≤ 4 := by
    intro o ho
    simp only [allParts, List.mem_cons, List.not_mem_nil, or_false] at ho
    rcases ho with rfl | rfl | rfl | rfl | rfl | rfl | rfl | rfl | rfl | rfl | rfl <;> intro r hr <;> (try cases hr) <;> decide
  exact this _ hm r rfl
/-- a struct in a block of its own, whatever has come behind it -/
theorem box_below {w w1 : World} {o : Obj} (hb : Below (w.alloc o).heap.size (w.alloc o) w1) : w1.heap[w.heap.size]? = some o := by
  rw [hb.block _ (by rw [World.size_alloc]; omega)]
  show (w.heap.push o)[w.heap.size]? = some o
  simp
theorem box_at {w : World} {b : Nat} {cs : Array Value} {T : TypeId} {fr : Nat × Nat} (h : w.heap[b]? = some (.cells cs T fr)) (j : Nat) (v : Value) (hv : cs[j]? = some v) : w.cell? ⟨b, j, none⟩ = some v := by
  rw [Lib.cell_of_heap h]; exact hv

theorem pol_zero_ne (k1 k2 k3 k4 k5 : Int) (h : ¬ (k1 = 0 ∧ k2 = 0 ∧ k3 = 0 ∧ k4 = 0 ∧ k5 = 0)) : ((⟨k1, k2, k3, k4, k5⟩ : Pol) == Pol.zero) = false := by
  rw [beq_eq_false_iff_ne]
  intro e
  unfold Pol.zero at e
  injection e with e1 e2 e3 e4 e5
  exact h ⟨e1, e2, e3, e4, e5⟩

set_option maxHeartbeats 2000000 in
set_option maxRecDepth 100000 in
theorem rmay_any (c : Cmd) (w : World) :
    Calls Tryz.prog 12 #[encCmd c] w fun e w' => e = .returned (.bool (mayN c)) ∧ Below w.heap.size w w' := by
  have HP := Lib.hid (fun w => parts_any c w)
  obtain ⟨sc, vb, st, sn, ot, tx, cl, nw, kp⟩ := c
  obtain ⟨k1, k2, k3, k4, k5⟩ := kp
  generalize hc : (⟨sc, vb, st, sn, ot, tx, cl, nw, ⟨k1, k2, k3, k4, k5⟩⟩ : Cmd) = c at HP
  have HC := Lib.hid hc
  have he : encCmd c = .agg #[.bool sc, .string ⟨vb.toArray⟩, .string ⟨st.toArray⟩, .string ⟨sn.toArray⟩, .string ⟨ot.toArray⟩, .string ⟨tx.toArray⟩, .int .i64 cl, .int .u64 nw, .int .i64 k1, .int .i64 k2, .int .i64 k3, .int .i64 k4, .int .i64 k5] := by
    rw [← hc]; rfl
  rw [he] at HP ⊢
  clear he
  have hres : mayN c = match partsN c with | none => false | some r => nameB st (hasP r 0) && nameB sn (hasP r 1) && nameB ot (hasP r 2) &&
      (decide (tx.length ≤ 256) && (tx.isEmpty || hasP r 4)) && (decide (0 ≤ cl) && decide (cl < 16) && (cl == 0 || hasP r 3)) && (nw == 0 || hasP r 5) &&
      (numB k1 && numB k2 && numB k3 && numB k4 && numB k5 && ((⟨k1, k2, k3, k4, k5⟩ : Pol) == Pol.zero || hasP r 6)) := by
    unfold mayN; rw [← hc]; split <;> rename_i h <;> rw [h] <;> rfl
  have HM := Lib.hid hres
  clear hres
  go_enter Tryz.func12, Tryz.ntmps12
  go_wp2_with (go_at_call 17; refine (HP.out _).mono ?_)
  first | rintro e w1 rfl hb1 | rintro e w1 ⟨rfl, hb1⟩
  have hbk := box_below hb1
  have HB := Lib.hid (((Below.refl w.heap.size w).alloc (Nat.le_refl _) _).trans (hb1.mono (by rw [World.size_alloc]; omega)))
  have hlt : w.heap.size < w1.heap.size := by have := hb1.size; rw [World.size_alloc] at this; omega
  clear hb1
  have c2 : w1.cell? ⟨w.heap.size, 2, none⟩ = some (.string ⟨st.toArray⟩) := box_at hbk 2 _ rfl
  have c3 : w1.cell? ⟨w.heap.size, 3, none⟩ = some (.string ⟨sn.toArray⟩) := box_at hbk 3 _ rfl
  have c4 : w1.cell? ⟨w.heap.size, 4, none⟩ = some (.string ⟨ot.toArray⟩) := box_at hbk 4 _ rfl
  have c5 : w1.cell? ⟨w.heap.size, 5, none⟩ = some (.string ⟨tx.toArray⟩) := box_at hbk 5 _ rfl
  have c6 : w1.cell? ⟨w.heap.size, 6, none⟩ = some (.int .i64 cl) := box_at hbk 6 _ rfl
  have c7 : w1.cell? ⟨w.heap.size, 7, none⟩ = some (.int .u64 nw) := box_at hbk 7 _ rfl
  have c8 : w1.cell? ⟨w.heap.size, 8, none⟩ = some (.int .i64 k1) := box_at hbk 8 _ rfl
  have c9 : w1.cell? ⟨w.heap.size, 9, none⟩ = some (.int .i64 k2) := box_at hbk 9 _ rfl
  have c10 : w1.cell? ⟨w.heap.size, 10, none⟩ = some (.int .i64 k3) := box_at hbk 10 _ rfl
  have c11 : w1.cell? ⟨w.heap.size, 11, none⟩ = some (.int .i64 k4) := box_at hbk 11 _ rfl
  have c12 : w1.cell? ⟨w.heap.size, 12, none⟩ = some (.int .i64 k5) := box_at hbk 12 _ rfl
  clear hbk
  cases hp : partsN c with
  | none =>
    have hs : partsS c = [] := by unfold partsS; rw [hp]
    rw [hs]
    have HQ := Lib.hid hp
    clear hs hp hc
    simp only [Option.isSome]
    go_wp2_with fail
    go_quiet (fail)
    go_wp2_with fail
    go_ret
    rw [HM.out, HQ.out]
    exact ⟨rfl, bdrew (HB.out.alloc HB.out.size _) _⟩
  | some r =>
    have hs : partsS c = r.map letter := by unfold partsS; rw [hp]
    rw [hs]
    have HM : Hid (mayN c = (nameB st (hasP r 0) && nameB sn (hasP r 1) && nameB ot (hasP r 2) &&
      (decide (tx.length ≤ 256) && (tx.isEmpty || hasP r 4)) && (decide (0 ≤ cl) && decide (cl < 16) && (cl == 0 || hasP r 3)) && (nw == 0 || hasP r 5) &&
      (numB k1 && numB k2 && numB k3 && numB k4 && numB k5 && ((⟨k1, k2, k3, k4, k5⟩ : Pol) == Pol.zero || hasP r 6)))) := Lib.hid (by have := HM.out; rw [hp] at this; exact this)
    have hlen := parts_len c r hp
    have hr := partsN_le c r hp
    have hB : ∀ k, k ≤ 8 → ∀ w, Calls Tryz.prog 22 #[.string ⟨(r.map letter).toArray⟩, .int .u8 (letter k).toNat] w fun e w' => e = .returned (.bool (hasP r k)) ∧ w = w' := by
      intro k hk w
      have h := rhas_any (r.map letter) (by simp; omega) (letter k) w
      rw [has_letter r hr k hk] at h
      exact h
    have H0 : Hid (∀ w, Calls Tryz.prog 22 #[.string ⟨(r.map letter).toArray⟩, .int .u8 115] w fun e w' => e = .returned (.bool (hasP r 0)) ∧ w = w') := Lib.hid (hB 0 (by decide))
    have H1 : Hid (∀ w, Calls Tryz.prog 22 #[.string ⟨(r.map letter).toArray⟩, .int .u8 110] w fun e w' => e = .returned (.bool (hasP r 1)) ∧ w = w') := Lib.hid (hB 1 (by decide))
    have H2 : Hid (∀ w, Calls Tryz.prog 22 #[.string ⟨(r.map letter).toArray⟩, .int .u8 111] w fun e w' => e = .returned (.bool (hasP r 2)) ∧ w = w') := Lib.hid (hB 2 (by decide))
    have H3 : Hid (∀ w, Calls Tryz.prog 22 #[.string ⟨(r.map letter).toArray⟩, .int .u8 99] w fun e w' => e = .returned (.bool (hasP r 3)) ∧ w = w') := Lib.hid (hB 3 (by decide))
    have H4 : Hid (∀ w, Calls Tryz.prog 22 #[.string ⟨(r.map letter).toArray⟩, .int .u8 116] w fun e w' => e = .returned (.bool (hasP r 4)) ∧ w = w') := Lib.hid (hB 4 (by decide))
    have H5 : Hid (∀ w, Calls Tryz.prog 22 #[.string ⟨(r.map letter).toArray⟩, .int .u8 119] w fun e w' => e = .returned (.bool (hasP r 5)) ∧ w = w') := Lib.hid (hB 5 (by decide))
    have H6 : Hid (∀ w, Calls Tryz.prog 22 #[.string ⟨(r.map letter).toArray⟩, .int .u8 107] w fun e w' => e = .returned (.bool (hasP r 6)) ∧ w = w') := Lib.hid (hB 6 (by decide))
    clear hs hp hc hlen hr hB HP HC
    generalize (r.map letter).toArray = ps at *
    simp only [Option.isSome]
    generalize hasP r 0 = b0 at *; generalize hasP r 1 = b1 at *; generalize hasP r 2 = b2 at *; generalize hasP r 3 = b3 at *
    generalize hasP r 4 = b4 at *; generalize hasP r 5 = b5 at *; generalize hasP r 6 = b6 at *
    have N0 := Lib.hid (fun w => rname_any st b0 w); have N1 := Lib.hid (fun w => rname_any sn b1 w); have N2 := Lib.hid (fun w => rname_any ot b2 w)
    generalize nameB st b0 = n0 at *; generalize nameB sn b1 = n1 at *; generalize nameB ot b2 = n2 at *
    have hT : ∃ T, T = (decide (tx.length ≤ 256) && (tx.isEmpty || b4) && (decide (0 ≤ cl) && decide (cl < 16) && (cl == 0 || b3)) && (nw == 0 || b5)) := ⟨_, rfl⟩
    obtain ⟨T, hT⟩ := hT
    have ET := Lib.hid hT
    have hK : ∃ K, K = ((⟨k1, k2, k3, k4, k5⟩ : Pol) == Pol.zero || b6) := ⟨_, rfl⟩
    obtain ⟨K, hK⟩ := hK
    have EK := Lib.hid hK
    have HRES : Hid (mayN c = (n0 && n1 && n2 && T && K && (numB k1 && numB k2 && numB k3 && numB k4 && numB k5))) := Lib.hid (by
      rw [HM.out, ET.out, EK.out]
      cases n0 <;> cases n1 <;> cases n2 <;> simp
      ac_rfl)
    clear hT hK
    go_upto_region 3 with fail
    go_cut [38] (fun c wx => c = .bool (!(n0 && n1 && n2)) ∧ ∃ n, wx = World.drewN (w1.alloc (.cells #[.int .i64 k1, .int .i64 k2, .int .i64 k3, .int .i64 k4, .int .i64 k5] 33)) n)
    case first =>
      obtain rfl | ⟨rfl, rfl⟩ | ⟨rfl, rfl, rfl⟩ | ⟨rfl, rfl, rfl⟩ : n0 = false ∨ (n0 = true ∧ n1 = false) ∨ (n0 = true ∧ n1 = true ∧ n2 = false) ∨ (n0 = true ∧ n1 = true ∧ n2 = true) := by cases n0 <;> cases n1 <;> cases n2 <;> simp
      all_goals (go_quiet (first | (go_at_call 22; first | with_reducible exact qleft (H0.out _) | with_reducible exact qleft (H1.out _) | with_reducible exact qleft (H2.out _)) | (go_at_call 21; first | with_reducible exact qleft (N0.out _) | with_reducible exact qleft (N1.out _) | with_reducible exact qleft (N2.out _))))
      all_goals (go_wp2_with fail)
      all_goals go_meet
      all_goals exact ⟨rfl, _, rfl⟩
    case rest =>
      obtain ⟨rfl, n, rfl⟩ := hcut
      cases hN : (n0 && n1 && n2) with
      | false =>
        have HF : Hid (mayN c = false) := Lib.hid (by rw [HRES.out, hN]; simp)
        clear hN
        go_wp2_with fail
        go_ret
        rw [HF.out]
        exact ⟨rfl, bdrew (HB.out.alloc HB.out.size _) _⟩
      | true =>
        have HF : Hid (mayN c = (T && K && (numB k1 && numB k2 && numB k3 && numB k4 && numB k5))) := Lib.hid (by rw [HRES.out, hN]; simp)
        clear hN
        go_upto_region 5 with fail
        go_cut [82] (fun c wx => c = .bool (!T) ∧ ∃ n, wx = World.drewN (w1.alloc (.cells #[.int .i64 k1, .int .i64 k2, .int .i64 k3, .int .i64 k4, .int .i64 k5] 33)) n)
        case first =>
          by_cases h1 : 256 < tx.length
          · have g1 : (256 : Int) < (tx.length : Int) := by omega
            have HT : Hid (T = false) := Lib.hid (by rw [ET.out, decide_eq_false (by omega)]; simp)
            clear h1
            go_wp2_with fail
            go_meet
            exact ⟨by rw [HT.out]; rfl, _, rfl⟩
          · have g1 : decide ((256 : Int) < (tx.length : Int)) = false := by simp; omega
            have G1 := Lib.hid (show tx.length ≤ 256 by omega)
            clear h1
            have EW : Hid (T = ((tx.isEmpty || b4) && (decide (0 ≤ cl) && decide (cl < 16) && (cl == 0 || b3)) && (nw == 0 || b5))) := Lib.hid (by rw [ET.out, decide_eq_true G1.out]; simp)
            obtain rfl | ⟨x, l, rfl⟩ : tx = [] ∨ ∃ x l, tx = x :: l := by cases tx <;> simp
            · have EX : Hid (T = ((decide (0 ≤ cl) && decide (cl < 16) && (cl == 0 || b3)) && (nw == 0 || b5))) := Lib.hid (by rw [EW.out]; simp)
              clear g1
              by_cases h2 : cl < 0
              · have HT : Hid (T = false) := Lib.hid (by rw [EX.out, decide_eq_false (show ¬ 0 ≤ cl by omega)]; rfl)
                go_wp2_with (go_at_call 22; first | (with_reducible refine (H4.out _).mono ?_; rintro e w' ⟨rfl, rfl⟩) | (with_reducible refine (H3.out _).mono ?_; rintro e w' ⟨rfl, rfl⟩) | (with_reducible refine (H5.out _).mono ?_; rintro e w' ⟨rfl, rfl⟩))
                go_meet
                exact ⟨by rw [HT.out]; rfl, _, rfl⟩
              · have g2 : decide (cl < 0) = false := decide_eq_false h2
                by_cases h3 : 15 < cl
                · have HT : Hid (T = false) := Lib.hid (by rw [EX.out, decide_eq_false (show ¬ cl < 16 by omega)]; simp)
                  clear h2
                  go_wp2_with (go_at_call 22; first | (with_reducible refine (H4.out _).mono ?_; rintro e w' ⟨rfl, rfl⟩) | (with_reducible refine (H3.out _).mono ?_; rintro e w' ⟨rfl, rfl⟩) | (with_reducible refine (H5.out _).mono ?_; rintro e w' ⟨rfl, rfl⟩))
                  go_meet
                  exact ⟨by rw [HT.out]; rfl, _, rfl⟩
                · have g3 : decide (15 < cl) = false := decide_eq_false h3
                  have EY : Hid (T = ((cl == 0 || b3) && (nw == 0 || b5))) := Lib.hid (by rw [EX.out, decide_eq_true (show 0 ≤ cl by omega), decide_eq_true (show cl < 16 by omega)]; simp)
                  clear h2 h3
                  obtain rfl | ⟨h4, rfl⟩ | ⟨h4, rfl⟩ : cl = 0 ∨ (cl ≠ 0 ∧ b3 = true) ∨ (cl ≠ 0 ∧ b3 = false) := by cases b3 <;> simp <;> omega
                  · have EC : Hid (T = (nw == 0 || b5)) := Lib.hid (by rw [EY.out]; simp)
                    clear g2 g3
                    obtain rfl | ⟨h4, rfl⟩ | ⟨h4, rfl⟩ : nw = 0 ∨ (nw ≠ 0 ∧ b5 = true) ∨ (nw ≠ 0 ∧ b5 = false) := by cases b5 <;> simp <;> omega
                    · have HT : Hid (T = true) := Lib.hid (by rw [EC.out]; rfl)
                      go_wp2_with (go_at_call 22; first | (with_reducible refine (H4.out _).mono ?_; rintro e w' ⟨rfl, rfl⟩) | (with_reducible refine (H3.out _).mono ?_; rintro e w' ⟨rfl, rfl⟩) | (with_reducible refine (H5.out _).mono ?_; rintro e w' ⟨rfl, rfl⟩))
                      go_meet
                      exact ⟨by rw [HT.out]; rfl, _, rfl⟩
                    · have HT : Hid (T = true) := Lib.hid (by rw [EC.out]; simp)
                      go_wp2_with (go_at_call 22; first | (with_reducible refine (H4.out _).mono ?_; rintro e w' ⟨rfl, rfl⟩) | (with_reducible refine (H3.out _).mono ?_; rintro e w' ⟨rfl, rfl⟩) | (with_reducible refine (H5.out _).mono ?_; rintro e w' ⟨rfl, rfl⟩))
                      go_meet
                      exact ⟨by rw [HT.out]; rfl, _, rfl⟩
                    · have HT : Hid (T = false) := Lib.hid (by rw [EC.out]; simp [h4])
                      go_wp2_with (go_at_call 22; first | (with_reducible refine (H4.out _).mono ?_; rintro e w' ⟨rfl, rfl⟩) | (with_reducible refine (H3.out _).mono ?_; rintro e w' ⟨rfl, rfl⟩) | (with_reducible refine (H5.out _).mono ?_; rintro e w' ⟨rfl, rfl⟩))
                      go_meet
                      exact ⟨by rw [HT.out]; simp [h4], _, rfl⟩
                  · have EC : Hid (T = (nw == 0 || b5)) := Lib.hid (by rw [EY.out]; simp)
                    obtain rfl | ⟨h4, rfl⟩ | ⟨h4, rfl⟩ : nw = 0 ∨ (nw ≠ 0 ∧ b5 = true) ∨ (nw ≠ 0 ∧ b5 = false) := by cases b5 <;> simp <;> omega
                    · have HT : Hid (T = true) := Lib.hid (by rw [EC.out]; rfl)
                      go_wp2_with (go_at_call 22; first | (with_reducible refine (H4.out _).mono ?_; rintro e w' ⟨rfl, rfl⟩) | (with_reducible refine (H3.out _).mono ?_; rintro e w' ⟨rfl, rfl⟩) | (with_reducible refine (H5.out _).mono ?_; rintro e w' ⟨rfl, rfl⟩))
                      go_meet
                      exact ⟨by rw [HT.out]; rfl, _, rfl⟩
                    · have HT : Hid (T = true) := Lib.hid (by rw [EC.out]; simp)
                      go_wp2_with (go_at_call 22; first | (with_reducible refine (H4.out _).mono ?_; rintro e w' ⟨rfl, rfl⟩) | (with_reducible refine (H3.out _).mono ?_; rintro e w' ⟨rfl, rfl⟩) | (with_reducible refine (H5.out _).mono ?_; rintro e w' ⟨rfl, rfl⟩))
                      go_meet
                      exact ⟨by rw [HT.out]; rfl, _, rfl⟩
                    · have HT : Hid (T = false) := Lib.hid (by rw [EC.out]; simp [h4])
                      go_wp2_with (go_at_call 22; first | (with_reducible refine (H4.out _).mono ?_; rintro e w' ⟨rfl, rfl⟩) | (with_reducible refine (H3.out _).mono ?_; rintro e w' ⟨rfl, rfl⟩) | (with_reducible refine (H5.out _).mono ?_; rintro e w' ⟨rfl, rfl⟩))
                      go_meet
                      exact ⟨by rw [HT.out]; simp [h4], _, rfl⟩
                  · have HT : Hid (T = false) := Lib.hid (by rw [EY.out]; simp [h4])
                    go_wp2_with (go_at_call 22; first | (with_reducible refine (H4.out _).mono ?_; rintro e w' ⟨rfl, rfl⟩) | (with_reducible refine (H3.out _).mono ?_; rintro e w' ⟨rfl, rfl⟩) | (with_reducible refine (H5.out _).mono ?_; rintro e w' ⟨rfl, rfl⟩))
                    go_meet
                    exact ⟨by rw [HT.out]; simp [h4], _, rfl⟩
            · have g1' : decide ((256 : Int) < (l.length : Int) + 1) = false := by have := G1.out; simp only [List.length_cons] at this; simp; omega
              clear g1
              cases b4 with
              | false =>
                have HT : Hid (T = false) := Lib.hid (by rw [EW.out]; simp)
                go_wp2_with (go_at_call 22; first | (with_reducible refine (H4.out _).mono ?_; rintro e w' ⟨rfl, rfl⟩) | (with_reducible refine (H3.out _).mono ?_; rintro e w' ⟨rfl, rfl⟩) | (with_reducible refine (H5.out _).mono ?_; rintro e w' ⟨rfl, rfl⟩))
                go_meet
                exact ⟨by rw [HT.out]; rfl, _, rfl⟩
              | true =>
                have EX : Hid (T = ((decide (0 ≤ cl) && decide (cl < 16) && (cl == 0 || b3)) && (nw == 0 || b5))) := Lib.hid (by rw [EW.out]; simp)
                by_cases h2 : cl < 0
                · have HT : Hid (T = false) := Lib.hid (by rw [EX.out, decide_eq_false (show ¬ 0 ≤ cl by omega)]; rfl)
                  go_wp2_with (go_at_call 22; first | (with_reducible refine (H4.out _).mono ?_; rintro e w' ⟨rfl, rfl⟩) | (with_reducible refine (H3.out _).mono ?_; rintro e w' ⟨rfl, rfl⟩) | (with_reducible refine (H5.out _).mono ?_; rintro e w' ⟨rfl, rfl⟩))
                  go_meet
                  exact ⟨by rw [HT.out]; rfl, _, rfl⟩
                · have g2 : decide (cl < 0) = false := decide_eq_false h2
                  by_cases h3 : 15 < cl
                  · have HT : Hid (T = false) := Lib.hid (by rw [EX.out, decide_eq_false (show ¬ cl < 16 by omega)]; simp)
                    clear h2
                    go_wp2_with (go_at_call 22; first | (with_reducible refine (H4.out _).mono ?_; rintro e w' ⟨rfl, rfl⟩) | (with_reducible refine (H3.out _).mono ?_; rintro e w' ⟨rfl, rfl⟩) | (with_reducible refine (H5.out _).mono ?_; rintro e w' ⟨rfl, rfl⟩))
                    go_meet
                    exact ⟨by rw [HT.out]; rfl, _, rfl⟩
                  · have g3 : decide (15 < cl) = false := decide_eq_false h3
                    have EY : Hid (T = ((cl == 0 || b3) && (nw == 0 || b5))) := Lib.hid (by rw [EX.out, decide_eq_true (show 0 ≤ cl by omega), decide_eq_true (show cl < 16 by omega)]; simp)
                    clear h2 h3
                    obtain rfl | ⟨h4, rfl⟩ | ⟨h4, rfl⟩ : cl = 0 ∨ (cl ≠ 0 ∧ b3 = true) ∨ (cl ≠ 0 ∧ b3 = false) := by cases b3 <;> simp <;> omega
                    · have EC : Hid (T = (nw == 0 || b5)) := Lib.hid (by rw [EY.out]; simp)
                      clear g2 g3
                      obtain rfl | ⟨h4, rfl⟩ | ⟨h4, rfl⟩ : nw = 0 ∨ (nw ≠ 0 ∧ b5 = true) ∨ (nw ≠ 0 ∧ b5 = false) := by cases b5 <;> simp <;> omega
                      · have HT : Hid (T = true) := Lib.hid (by rw [EC.out]; rfl)
                        go_wp2_with (go_at_call 22; first | (with_reducible refine (H4.out _).mono ?_; rintro e w' ⟨rfl, rfl⟩) | (with_reducible refine (H3.out _).mono ?_; rintro e w' ⟨rfl, rfl⟩) | (with_reducible refine (H5.out _).mono ?_; rintro e w' ⟨rfl, rfl⟩))
                        go_meet
                        exact ⟨by rw [HT.out]; rfl, _, rfl⟩
                      · have HT : Hid (T = true) := Lib.hid (by rw [EC.out]; simp)
                        go_wp2_with (go_at_call 22; first | (with_reducible refine (H4.out _).mono ?_; rintro e w' ⟨rfl, rfl⟩) | (with_reducible refine (H3.out _).mono ?_; rintro e w' ⟨rfl, rfl⟩) | (with_reducible refine (H5.out _).mono ?_; rintro e w' ⟨rfl, rfl⟩))
                        go_meet
                        exact ⟨by rw [HT.out]; rfl, _, rfl⟩
                      · have HT : Hid (T = false) := Lib.hid (by rw [EC.out]; simp [h4])
                        go_wp2_with (go_at_call 22; first | (with_reducible refine (H4.out _).mono ?_; rintro e w' ⟨rfl, rfl⟩) | (with_reducible refine (H3.out _).mono ?_; rintro e w' ⟨rfl, rfl⟩) | (with_reducible refine (H5.out _).mono ?_; rintro e w' ⟨rfl, rfl⟩))
                        go_meet
                        exact ⟨by rw [HT.out]; simp [h4], _, rfl⟩
                    · have EC : Hid (T = (nw == 0 || b5)) := Lib.hid (by rw [EY.out]; simp)
                      obtain rfl | ⟨h4, rfl⟩ | ⟨h4, rfl⟩ : nw = 0 ∨ (nw ≠ 0 ∧ b5 = true) ∨ (nw ≠ 0 ∧ b5 = false) := by cases b5 <;> simp <;> omega
                      · have HT : Hid (T = true) := Lib.hid (by rw [EC.out]; rfl)
                        go_wp2_with (go_at_call 22; first | (with_reducible refine (H4.out _).mono ?_; rintro e w' ⟨rfl, rfl⟩) | (with_reducible refine (H3.out _).mono ?_; rintro e w' ⟨rfl, rfl⟩) | (with_reducible refine (H5.out _).mono ?_; rintro e w' ⟨rfl, rfl⟩))
                        go_meet
                        exact ⟨by rw [HT.out]; rfl, _, rfl⟩
                      · have HT : Hid (T = true) := Lib.hid (by rw [EC.out]; simp)
                        go_wp2_with (go_at_call 22; first | (with_reducible refine (H4.out _).mono ?_; rintro e w' ⟨rfl, rfl⟩) | (with_reducible refine (H3.out _).mono ?_; rintro e w' ⟨rfl, rfl⟩) | (with_reducible refine (H5.out _).mono ?_; rintro e w' ⟨rfl, rfl⟩))
                        go_meet
                        exact ⟨by rw [HT.out]; rfl, _, rfl⟩
                      · have HT : Hid (T = false) := Lib.hid (by rw [EC.out]; simp [h4])
                        go_wp2_with (go_at_call 22; first | (with_reducible refine (H4.out _).mono ?_; rintro e w' ⟨rfl, rfl⟩) | (with_reducible refine (H3.out _).mono ?_; rintro e w' ⟨rfl, rfl⟩) | (with_reducible refine (H5.out _).mono ?_; rintro e w' ⟨rfl, rfl⟩))
                        go_meet
                        exact ⟨by rw [HT.out]; simp [h4], _, rfl⟩
                    · have HT : Hid (T = false) := Lib.hid (by rw [EY.out]; simp [h4])
                      go_wp2_with (go_at_call 22; first | (with_reducible refine (H4.out _).mono ?_; rintro e w' ⟨rfl, rfl⟩) | (with_reducible refine (H3.out _).mono ?_; rintro e w' ⟨rfl, rfl⟩) | (with_reducible refine (H5.out _).mono ?_; rintro e w' ⟨rfl, rfl⟩))
                      go_meet
                      exact ⟨by rw [HT.out]; simp [h4], _, rfl⟩
        case rest =>
          obtain ⟨rfl, n, rfl⟩ := hcut
          cases T with
          | false =>
            have HG : Hid (mayN c = false) := Lib.hid (by rw [HF.out]; rfl)
            go_wp2_with fail
            go_ret
            rw [HG.out]
            exact ⟨rfl, bdrew (HB.out.alloc HB.out.size _) _⟩
          | true =>
            have HG : Hid (mayN c = (K && (numB k1 && numB k2 && numB k3 && numB k4 && numB k5))) := Lib.hid (by rw [HF.out]; simp)
            go_upto_region 7 with fail
            go_cut [90] (fun c wx => c = .bool (!K) ∧ ∃ n, wx = World.drewN (w1.alloc (.cells #[.int .i64 k1, .int .i64 k2, .int .i64 k3, .int .i64 k4, .int .i64 k5] 33)) n)
            case first =>
              have hz : (k1 = 0 ∧ k2 = 0 ∧ k3 = 0 ∧ k4 = 0 ∧ k5 = 0) ∨ k1 ≠ 0 ∨ (k1 = 0 ∧ k2 ≠ 0) ∨ (k1 = 0 ∧ k2 = 0 ∧ k3 ≠ 0) ∨ (k1 = 0 ∧ k2 = 0 ∧ k3 = 0 ∧ k4 ≠ 0) ∨ (k1 = 0 ∧ k2 = 0 ∧ k3 = 0 ∧ k4 = 0 ∧ k5 ≠ 0) := by omega
              obtain ⟨rfl, rfl, rfl, rfl, rfl⟩ | h | ⟨rfl, h⟩ | ⟨rfl, rfl, h⟩ | ⟨rfl, rfl, rfl, h⟩ | ⟨rfl, rfl, rfl, rfl, h⟩ := hz
              all_goals go_wp2_with (go_at_call 22; with_reducible refine (H6.out _).mono ?_; rintro e w' ⟨rfl, rfl⟩)
              all_goals go_meet
              all_goals refine ⟨?_, _, rfl⟩
              all_goals (rw [EK.out]; first | rfl | (rw [pol_zero_ne _ _ _ _ _ (by simp [h])]; rfl))
            case rest =>
              obtain ⟨rfl, n, rfl⟩ := hcut
              cases K with
              | false =>
                have HJ : Hid (mayN c = false) := Lib.hid (by rw [HG.out]; rfl)
                go_wp2_with fail
                go_ret
                rw [HJ.out]
                exact ⟨rfl, bdrew (HB.out.alloc HB.out.size _) _⟩
              | true =>
                have M1 := Lib.hid (fun w => rnumber34_any k1 w); have M2 := Lib.hid (fun w => rnumber34_any k2 w); have M3 := Lib.hid (fun w => rnumber34_any k3 w)
                have M4 := Lib.hid (fun w => rnumber34_any k4 w); have M5 := Lib.hid (fun w => rnumber34_any k5 w)
                generalize numB k1 = m1 at *; generalize numB k2 = m2 at *; generalize numB k3 = m3 at *; generalize numB k4 = m4 at *; generalize numB k5 = m5 at *
                have HJ : Hid (mayN c = (m1 && m2 && m3 && m4 && m5)) := Lib.hid (by rw [HG.out]; rfl)
                obtain rfl | ⟨rfl, rfl⟩ | ⟨rfl, rfl, rfl⟩ | ⟨rfl, rfl, rfl, rfl⟩ | ⟨rfl, rfl, rfl, rfl⟩ : m1 = false ∨ (m1 = true ∧ m2 = false) ∨ (m1 = true ∧ m2 = true ∧ m3 = false) ∨ (m1 = true ∧ m2 = true ∧ m3 = true ∧ m4 = false) ∨ (m1 = true ∧ m2 = true ∧ m3 = true ∧ m4 = true) := by
                  cases m1 <;> cases m2 <;> cases m3 <;> cases m4 <;> simp
                all_goals
                  go_wp2_with (go_at_call 23; first | (with_reducible refine (M1.out _).mono ?_; rintro e w' ⟨rfl, rfl⟩) | (with_reducible refine (M2.out _).mono ?_; rintro e w' ⟨rfl, rfl⟩) | (with_reducible refine (M3.out _).mono ?_; rintro e w' ⟨rfl, rfl⟩) | (with_reducible refine (M4.out _).mono ?_; rintro e w' ⟨rfl, rfl⟩) | (with_reducible refine (M5.out _).mono ?_; rintro e w' ⟨rfl, rfl⟩))
                  go_ret
                  rw [HJ.out]
                  exact ⟨rfl, bdrew (HB.out.alloc HB.out.size _) _⟩
end Go.Proofs.YtnkhiaikdmpimaaGreatDoor
