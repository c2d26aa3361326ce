/- cauterylaw33.LexBack: THE WALK. -/
import Derived.Test.YtnkhiaikdmpimaaDoorLexR
import Derived.Test.YtnkhiaikdmpimaaDoorLexO
namespace Go.Proofs.YtnkhiaikdmpimaaDoor
open Go.RowKit Lx

set_option maxHeartbeats 2000000 in
set_option maxRecDepth 100000 in
theorem lexBack_walk (a : Option Addr) (cap : Nat) (ss : List (List UInt8)) (be : List UInt8) (w : World) (hc : Strs w a ss) (hv : HasErr w) :
    Calls Tryd.prog 5 #[.slice a ss.length cap, .string ⟨be.toArray⟩] w fun e w' => e = .returned (.bool true) ∧ Below w.heap.size w w' := by
  have HA0 := Lib.hid (alive_any w hv)
  by_cases hlong : 10 < ss.length
  · have hl1 : (10 : Int) < (ss.length : Int) := by omega
    clear hlong hv
    go_enter Tryd.func5, Tryd.ntmps5
    go_wp2_with (go_at_call 7; refine HA0.out.mono ?_)
    rintro e w1 ⟨rfl, hb1⟩
    go_wp2_with fail
    go_ret
    exact ⟨rfl, hb1⟩
  have hl1 : (ss.length : Int) ≤ 10 := by omega
  have hl : ss.length ≤ 10 := by omega
  by_cases hbe : 50 < be.length
  · have hl2 : (50 : Int) < (be.length : Int) := by omega
    clear hlong hv hbe
    go_enter Tryd.func5, Tryd.ntmps5
    go_wp2_with (go_at_call 7; refine HA0.out.mono ?_)
    rintro e w1 ⟨rfl, hb1⟩
    go_wp2_with fail
    go_ret
    exact ⟨rfl, hb1⟩
  have hl2 : (be.length : Int) ≤ 50 := by omega
  have hbl : be.length ≤ 50 := by omega
  have HC := Lib.hid hc
  have HV := Lib.hid hv
  clear hc hv hlong hbe
  go_enter Tryd.func5, Tryd.ntmps5
  go_wp2_with fail
  go_loop [5] (fun i => ∃ k : Nat, k ≤ ss.length ∧ i = .int .i64 k ∧ (∀ s ∈ ss.take k, s.length ≤ 20)) (fun i => ss.length - (intOf i).toNat)
  case atStart => exact ⟨0, Nat.zero_le _, rfl, by simp⟩
  case round =>
    obtain ⟨k, hk, rfl, hall⟩ := hrel
    have HA := Lib.hid hall
    clear hall
    by_cases hlt : k < ss.length
    · have hki : (k : Int) < (ss.length : Int) := by omega
      obtain ⟨ad, rfl, hcell⟩ := HC.out k hlt
      have htk : ss.take (k + 1) = ss.take k ++ [ss[k]] := List.take_succ_eq_append_getElem hlt
      generalize hss : ss[k] = s at hcell htk
      have HT := Lib.hid htk
      clear hss htk
      by_cases h20 : 20 < s.length
      · have h20i : (20 : Int) < (s.length : Int) := by omega
        go_wp2_with (go_at_call 7; refine HA0.out.mono ?_; first | rintro e w1 rfl hb1 | rintro e w1 ⟨rfl, hb1⟩)
        go_ret
        exact ⟨rfl, hb1⟩
      · have h20i : (s.length : Int) ≤ 20 := by omega
        go_wp2_with fail
        go_round
        case rel =>
          refine ⟨k + 1, hlt, by go_num, ?_⟩
          rw [HT.out]
          intro q hq'
          rcases List.mem_append.1 hq' with h | h
          · exact HA.out _ h
          · simp only [List.mem_singleton] at h; subst h; omega
        case measure => simp [intOf]; omega
    · have hki : ¬ (k : Int) < (ss.length : Int) := by omega
      obtain rfl : k = ss.length := by omega
      have HA1 : ∀ s ∈ ss, s.length ≤ 20 := fun s h => HA.out s (by rw [List.take_of_length_le (Nat.le_refl _)]; exact h)
      have HA2 := Lib.hid HA1
      have hjl := join_len ss 82 (fun s h => by have := quote_len s; have := HA1 s h; omega)
      have hjl' : (joinB ss).length ≤ 830 := by omega
      have hj := Lib.hid (join_any a cap ss w HC.out (by omega) (fun s h => by have := HA1 s h; omega))
      clear HA1 hjl HA
      go_wp2_with (go_at_call 15; refine hj.out.mono ?_)
      first | rintro e w1 rfl hb1 | rintro e w1 ⟨rfl, hb1⟩
      have HB1 := Lib.hid hb1
      have hs := Lib.hid (split_any (joinB ss) (by omega) w1)
      clear hb1
      go_wp2_with (go_at_call 8; refine hs.out.mono ?_)
      first | rintro e w2 hws hb2 | rintro e w2 ⟨hws, hb2⟩
      unfold Words at hws
      rw [if_neg (by omega), split_join] at hws
      obtain ⟨va, rfl, hoa⟩ := hws
      obtain ⟨aa, ca, rfl, _⟩ := word_cells hoa
      rw [List.length_map] at hoa
      have HB2 := Lib.hid (HB1.out.trans (hb2.mono HB1.out.size))
      have HOA := Lib.hid hoa
      have hj2 := Lib.hid (join_any a cap ss w2 (HC.out.below HB2.out) (by omega) (fun s h => by have := HA2.out s h; omega))
      clear hs hb2 hoa hj HB1
      go_wp2_with (go_at_call 15; refine hj2.out.mono ?_)
      first | rintro e w3 rfl hb3 | rintro e w3 ⟨rfl, hb3⟩
      have HB3 := Lib.hid (HB2.out.trans (hb3.mono HB2.out.size))
      have HOA3 := Lib.hid (own_below HOA.out hb3)
      have hs2 := Lib.hid (split_any (joinB ss ++ 32 :: 35 :: be) (by simp; omega) w3)
      clear hb3 hj2 HB2 HOA
      go_wp2_with (go_at_call 8; refine hs2.out.mono ?_)
      first | rintro e w4 hws hb4 | rintro e w4 ⟨hws, hb4⟩
      unfold Words at hws
      rw [if_neg (by simp; omega), split_join_comment] at hws
      obtain ⟨vb, rfl, hob⟩ := hws
      obtain ⟨ab, cb, rfl, hcb⟩ := word_cells hob
      obtain ⟨aa', ca', hva, hca⟩ := word_cells (show w4.ownsRow _ _ 2 _ (ss.map mkW).length (wcells (ss.map mkW)) from by rw [List.length_map]; exact own_below HOA3.out hb4)
      injection hva with hv1 hvl hv3
      clear hvl
      subst hv1
      subst hv3
      have HB4 := Lib.hid (HB3.out.trans (hb4.mono HB3.out.size))
      have HCA := Lib.hid hca
      have HCB := Lib.hid hcb
      have HC4 := Lib.hid (HC.out.below HB4.out)
      have HAL := Lib.hid (alive_any w4 (HV.out.below HB4.out))
      clear hs2 hb4 hob hcb hca HB3 HOA3
      go_wp2_with fail
      go_loopg [10] ss.length (fun g i wr => ∃ k n : Nat, g = ss.length - k ∧ k ≤ ss.length ∧ i = .int .i64 k ∧ wr = w4.drewN n)
      case atStart => exact ⟨0, 0, rfl, Nat.zero_le _, rfl, rfl⟩
      case round =>
        obtain ⟨k, n, rfl, hk, rfl, rfl⟩ := hrel
        by_cases hlt : k < ss.length
        · obtain ⟨ga, rfl, a1, a2⟩ := HCA.out k (by simpa using hlt)
          obtain ⟨gb, rfl, b1, b2⟩ := HCB.out k (by simpa using hlt)
          obtain ⟨ad, rfl, l1⟩ := HC4.out k hlt
          have hki : (k : Int) < (ss.length : Int) := by omega
          rw [List.getElem_map] at a1 a2 b1 b2
          generalize hss : ss[k] = s at a1 a2 b1 b2 l1
          generalize hqq : (mkW s).qd = q at a2 b2
          have hsm : (mkW s).s = s := rfl
          rw [hsm] at a1 b1
          clear hss hqq hsm
          go_wp2_with fail
          go_quiet (fail)
          go_wp2_with fail
          go_roundg (ss.length - (k + 1))
          case measure => omega
          case rel => exact ⟨k + 1, _, rfl, hlt, by go_num, rfl⟩
        · have hki : ¬ (k : Int) < (ss.length : Int) := by omega
          have HALn := Lib.hid (alive_any (w4.drewN n) ((HV.out.below HB4.out).drew n))
          go_wp2_with (go_at_call 7; refine HALn.out.mono ?_; first | rintro e w5 rfl hb5 | rintro e w5 ⟨rfl, hb5⟩)
          go_ret
          exact ⟨rfl, (bdrew HB4.out n).trans (hb5.mono HB4.out.size)⟩
end Go.Proofs.YtnkhiaikdmpimaaDoor
