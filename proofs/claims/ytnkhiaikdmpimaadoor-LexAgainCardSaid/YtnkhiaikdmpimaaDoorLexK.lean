/- THE REFERENCE'S Number. -/
import Derived.Test.YtnkhiaikdmpimaaDoorLexJ
import Derived.Test.YtnkhiaikdmpimaaDoorLexH
namespace Go.Proofs.YtnkhiaikdmpimaaDoor
open Go.RowKit Lx

def greatest : List UInt8 := [49, 56, 52, 52, 54, 55, 52, 52, 48, 55, 51, 55, 48, 57, 53, 53, 49, 54, 49, 53]
theorem less_total : ∀ (a b : List UInt8), a.length = b.length → Op.bytesLess a b = false → a ≠ b → Op.bytesLess b a = true
  | [], [], _, _, h => absurd rfl h
  | c :: a, d :: b, hl, h, hne => by
    simp only [Op.bytesLess, Bool.or_eq_false_iff, Bool.and_eq_false_iff, decide_eq_false_iff_not] at h
    simp only [Op.bytesLess, Bool.or_eq_true, decide_eq_true_eq, Bool.and_eq_true, beq_iff_eq]
    by_cases hcd : d < c
    · exact .inl hcd
    · have e : c = d := by
        apply UInt8.toNat_inj.1
        have h1 : ¬ c.toNat < d.toNat := fun g => h.1 (UInt8.lt_iff_toNat_lt.2 g)
        have h2 : ¬ d.toNat < c.toNat := fun g => hcd (UInt8.lt_iff_toNat_lt.2 g)
        omega
      subst e
      refine .inr ⟨rfl, less_total a b (by simpa using hl) ?_ (fun g => hne (by rw [g]))⟩
      rcases h.2 with h3 | h3
      · simp at h3
      · exact h3
theorem greatest_val : decv 0 greatest = 18446744073709551615 := by decide +kernel
/-- is a text of twenty digits above the greatest number? -/
theorem above_iff (l : List UInt8) (hd : l.all isDigit = true) (h20 : l.length = 20) : (!Op.bytesLess l greatest && !(l == greatest)) = decide (18446744073709551616 ≤ decv 0 l) := by
  have hg : greatest.all isDigit = true := by decide +kernel
  have hl : l.length = greatest.length := by rw [h20]; rfl
  have h1 := less_decv l greatest 0 hl hd hg
  have h2 := less_decv greatest l 0 hl.symm hg hd
  rw [greatest_val] at h1 h2
  by_cases he : l = greatest
  · subst he
    rw [greatest_val]
    simp
  · have he' : (l == greatest) = false := by simpa using he
    rw [he', Bool.not_false, Bool.and_true]
    cases hb : Op.bytesLess l greatest with
    | true =>
      have := h1.1 hb
      simp; omega
    | false =>
      have := h2.1 (less_total l greatest hl hb he)
      simp; omega
theorem below_short (l : List UInt8) (hd : l.all isDigit = true) (h20 : l.length < 20) : decv 0 l < 18446744073709551616 := by
  have h1 := (decv_bound l 0 hd).2
  have h2 : 10 ^ l.length ≤ 10 ^ 19 := Nat.pow_le_pow_right (by omega) (by omega)
  omega

theorem decv_append (acc : Nat) (s : List UInt8) (c : UInt8) : decv acc (s ++ [c]) = dstep (decv acc s) c := by
  unfold decv; rw [List.foldl_append]; rfl
theorem take_le (s : List UInt8) (k : Nat) (hd : s.all isDigit = true) : decv 0 (s.take k) ≤ decv 0 s := by
  have h : decv 0 s = decv (decv 0 (s.take k)) (s.drop k) := by
    conv => lhs; rw [← List.take_append_drop k s]
    unfold decv; rw [List.foldl_append]
  rw [h]; exact le_decv _ _
/-- one digit more, as the machine reckons it -/
theorem step_val (l : List UInt8) (j : Nat) (hj : j < l.length) (hd : l.all isDigit = true) (hb : ¬ 18446744073709551616 ≤ decv 0 l) :
    IntKind.u64.wrap (IntKind.u64.wrap ((decv 0 (l.take j) : Int) * 10) + ((l[j].toNat : Int) - 48) % 256) = (decv 0 (l.take (j + 1)) : Int) := by
  have hv : decv 0 (l.take (j + 1)) = decv 0 (l.take j) * 10 + (l[j].toNat - 48) := by
    rw [List.take_succ_eq_append_getElem hj, decv_append, dstep_eq]
  have hle := take_le l (j + 1) hd
  have hdig : isDigit l[j] = true := List.all_eq_true.1 hd _ (List.getElem_mem _)
  unfold isDigit at hdig
  simp only [Bool.and_eq_true, decide_eq_true_eq] at hdig
  rw [hv] at hle ⊢
  simp [IntKind.wrap, IntKind.bits, IntKind.signed]
  omega

set_option maxHeartbeats 1000000 in
theorem rnumber_core (l : List UInt8) (h1 : 1 ≤ l.length) (h20 : l.length ≤ 20) (hf : ((l[0].toNat : Int) == 48) = false) (hfm : formed l = l.all isDigit) (w : World) :
    Calls Tryd.prog 11 #[.string ⟨l.toArray⟩] w fun e w' => e = .returned (.tuple #[.int .u64 (number l).1, .int .i64 (number l).2]) ∧ w = w' := by
  have hi1 : (1 : Int) ≤ (l.length : Int) := by omega
  have hi20 : (l.length : Int) ≤ 20 := by omega
  have hi0 : (0 : Int) < (l.length : Int) := by omega
  have HF := Lib.hid hfm
  clear hfm
  go_enter Tryd.func11, Tryd.ntmps11
  go_wp2_with fail
  go_loop [4] (fun i => ∃ k : Nat, k ≤ l.length ∧ i = .int .i64 k ∧ (l.take k).all isDigit = true) (fun i => l.length - (intOf i).toNat)
  case atStart => exact ⟨0, by omega, rfl, rfl⟩
  case round =>
    obtain ⟨k, hk, rfl, hall⟩ := hrel
    have HA := Lib.hid hall
    clear hall
    by_cases hlt : k < l.length
    · have hsn : (l.take (k + 1)).all isDigit = ((l.take k).all isDigit && isDigit l[k]) := by
        rw [List.take_succ_eq_append_getElem hlt, List.all_append]; simp only [List.all_cons, List.all_nil, Bool.and_true]
      have HS := Lib.hid hsn
      have hlti : (k : Int) < (l.length : Int) := by omega
      clear hsn
      cases hb : isDigit l[k] with
      | true =>
        have hb' := hb
        unfold isDigit at hb'
        simp only [Bool.and_eq_true, decide_eq_true_eq] at hb'
        have hb1 : (48 : Int) ≤ (l[k].toNat : Int) := by omega
        have hb2 : (l[k].toNat : Int) ≤ 57 := by omega
        have HBk := Lib.hid hb
        clear hb hb'
        go_wp2_with fail
        go_round
        case rel => exact ⟨k + 1, by omega, by go_num, by rw [HS.out, HA.out, HBk.out]; rfl⟩
        case measure => simp [intOf]; omega
      | false =>
        have hall : l.all isDigit = false := by
          rw [← Bool.not_eq_true, List.all_eq_true]
          intro h
          have := h l[k] (List.getElem_mem _)
          rw [hb] at this; cases this
        have hn : number l = (0, 3) := by unfold number; rw [HF.out, hall]; rfl
        have HN := Lib.hid hn
        have hb' := hb
        unfold isDigit at hb'
        simp only [Bool.and_eq_false_iff, decide_eq_false_iff_not] at hb'
        clear hn hall hb
        rcases Nat.lt_or_ge l[k].toNat 48 with h48 | h48
        · have hb1 : (l[k].toNat : Int) < 48 := by omega
          clear hb' h48
          go_wp2_with fail
          go_ret2
          rw [HN.out]
          exact ⟨rfl, rfl⟩
        · have hb1 : (48 : Int) ≤ (l[k].toNat : Int) := by omega
          have hb2 : (57 : Int) < (l[k].toNat : Int) := by rcases hb' with h | h <;> omega
          clear hb' h48
          go_wp2_with fail
          go_ret2
          rw [HN.out]
          exact ⟨rfl, rfl⟩
    · have hall : l.all isDigit = true := by have := HA.out; rw [List.take_of_length_le (by omega)] at this; exact this
      have hlti : ¬ (k : Int) < (l.length : Int) := by omega
      have HD := Lib.hid hall
      clear hall HA
      by_cases hbig : 18446744073709551616 ≤ decv 0 l
      · have h20e : l.length = 20 := by
          rcases Nat.lt_or_ge l.length 20 with h | h
          · have := below_short l HD.out h; omega
          · omega
        have hab := above_iff l HD.out h20e
        rw [decide_eq_true hbig, Bool.and_eq_true] at hab
        obtain ⟨ha1, ha2⟩ := hab
        have hn : number l = (0, 4) := by unfold number; rw [HF.out, HD.out, if_pos rfl, if_neg (by omega)]
        have HN := Lib.hid hn
        have hie : (l.length : Int) = 20 := by omega
        unfold greatest at ha1 ha2
        clear hn hbig
        go_wp2_with fail
        go_ret2
        rw [HN.out]
        exact ⟨rfl, rfl⟩
      have hn : number l = (decv 0 l, 0) := by unfold number; rw [HF.out, HD.out, if_pos rfl, if_pos (by omega)]
      have HN := Lib.hid hn
      have HB := Lib.hid hbig
      clear hn
      have hq : ((l.length : Int) == 20) = false ∨ (l.length : Int) = 20 ∧ (Op.bytesLess l [49, 56, 52, 52, 54, 55, 52, 52, 48, 55, 51, 55, 48, 57, 53, 53, 49, 54, 49, 53] = true ∨
          (l == [49, 56, 52, 52, 54, 55, 52, 52, 48, 55, 51, 55, 48, 57, 53, 53, 49, 54, 49, 53]) = true) := by
        by_cases h20e : l.length = 20
        · have hab := above_iff l HD.out h20e
          rw [decide_eq_false hbig, Bool.and_eq_false_iff] at hab
          unfold greatest at hab
          exact .inr ⟨by omega, by simpa using hab⟩
        · exact .inl (by simp; omega)
      clear hbig
      rcases hq with hq | ⟨hie, hq | hq⟩
      all_goals
        go_wp2_with fail
        go_loop [5, 6] (fun a i => ∃ k : Nat, k ≤ l.length ∧ a = .int .u64 (decv 0 (l.take k)) ∧ i = .int .i64 k) (fun a i => l.length - (intOf i).toNat)
        case atStart => exact ⟨0, by omega, by rw [List.take_zero, decv_nil]; rfl, rfl⟩
        case round =>
          obtain ⟨j, hj, rfl, rfl⟩ := hrel
          by_cases hlt2 : j < l.length
          · have HS := Lib.hid (step_val l j hlt2 HD.out HB.out)
            have hjl : (j : Int) < (l.length : Int) := by omega
            go_wp2_with fail
            go_round
            case rel => exact ⟨j + 1, by omega, congrArg _ HS.out, by go_num⟩
            case measure => simp [intOf]; omega
          · have hjl : ¬ (j : Int) < (l.length : Int) := by omega
            have hje : l.take j = l := List.take_of_length_le (by omega)
            have HE := Lib.hid hje
            clear hje
            go_wp2_with fail
            go_ret2
            rw [HN.out, HE.out]
            exact ⟨rfl, rfl⟩

set_option maxHeartbeats 1000000 in
theorem rnumber_any (l : List UInt8) (hl : l.length ≤ 9223372036854775807) (w : World) :
    Calls Tryd.prog 11 #[.string ⟨l.toArray⟩] w fun e w' => e = .returned (.tuple #[.int .u64 (number l).1, .int .i64 (number l).2]) ∧ w = w' := by
  obtain rfl | ⟨c, r, rfl⟩ : l = [] ∨ ∃ c r, l = c :: r := by cases l <;> simp
  · have e : number [] = (0, 3) := by unfold number formed; simp
    rw [e]
    go_enter Tryd.func11, Tryd.ntmps11
    go_wp2_with fail
    go_ret2
    exact ⟨rfl, rfl⟩
  by_cases h20 : 20 < (c :: r).length
  · have e : number (c :: r) = (0, 3) := by
      unfold number formed
      rw [show decide ((c :: r).length ≤ 20) = false by simp only [decide_eq_false_iff_not]; omega]; simp
    rw [e]
    have hi : (20 : Int) < (r.length : Int) + 1 := by simp only [List.length_cons] at h20; omega
    go_enter Tryd.func11, Tryd.ntmps11
    go_wp2_with fail
    go_ret2
    exact ⟨rfl, rfl⟩
  have hi : (r.length : Int) + 1 ≤ 20 := by simp only [List.length_cons] at h20; omega
  have hlen : (c :: r).length ≤ 20 := by omega
  by_cases hz : c = 48 ∧ r ≠ []
  · obtain ⟨rfl, hr⟩ := hz
    obtain ⟨d, r, rfl⟩ : ∃ d r', r = d :: r' := by cases r with | nil => exact absurd rfl hr | cons d r => exact ⟨d, r, rfl⟩
    have e : number (48 :: d :: r) = (0, 3) := by unfold number formed; simp
    rw [e]
    clear e hl h20 hlen hr
    simp only [List.length_cons] at hi
    go_enter Tryd.func11, Tryd.ntmps11
    go_wp2_with fail
    go_ret2
    exact ⟨rfl, rfl⟩
  have hfm : formed (c :: r) = (c :: r).all isDigit := by
    unfold formed
    rw [show decide ((c :: r).length ≤ 20) = true by simpa using hlen]
    by_cases hc : c = 48
    · have : r = [] := by
        rcases r with _ | ⟨d, r⟩
        · rfl
        · exact absurd ⟨hc, by simp⟩ hz
      subst this; subst hc; rfl
    · simp [hc]
  have hcases : c = 48 ∧ r = [] ∨ c ≠ 48 := by
    by_cases hc : c = 48
    · refine .inl ⟨hc, ?_⟩
      rcases r with _ | ⟨d, r⟩
      · rfl
      · exact absurd ⟨hc, by simp⟩ hz
    · exact .inr hc
  rcases hcases with ⟨rfl, rfl⟩ | hc
  · have e : number [48] = (0, 0) := by decide +kernel
    rw [e]
    clear hfm hz h20 hlen e
    go_enter Tryd.func11, Tryd.ntmps11
    go_wp2_with fail
    go_rounds 2
    go_rounds 2
    go_ret2
    exact ⟨rfl, rfl⟩
  have g48 : ((c.toNat : Int) == 48) = false := byte_ne (k := 48) hc
  exact rnumber_core (c :: r) (by simp) hlen g48 hfm w
end Go.Proofs.YtnkhiaikdmpimaaDoor
