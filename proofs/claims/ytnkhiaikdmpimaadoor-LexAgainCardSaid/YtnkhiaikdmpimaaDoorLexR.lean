/- cauterylaw33.LexJoin: THE WALK. -/
import Derived.Test.YtnkhiaikdmpimaaDoorLexQ
import Derived.Test.YtnkhiaikdmpimaaDoorLexN
import Derived.Deep.RegionHeld3
namespace Go.Proofs.YtnkhiaikdmpimaaDoor
open Go.RowKit Lx

theorem HasErr.drew {w : World} (h : HasErr w) (n : Nat) : HasErr (w.drewN n) := h

theorem kept_on {w v v' : World} {p : Addr} {x : Value} (hc : v.cell? p = some x) (hb : Below w.heap.size w v) (h : Below v.heap.size v v') : v'.cell? p = some x ∧ Below w.heap.size w v' :=
  ⟨(h.cell (p := p) (World.block_lt_of_cell? v _ hc)).trans hc, hb.trans (h.mono hb.size)⟩
set_option maxHeartbeats 2000000 in
set_option maxRecDepth 100000 in
theorem lexJoin_walk (a : Option Addr) (cap : Nat) (ss : List (List UInt8)) (w : World) (hc : Strs w a ss) (hv : HasErr w) :
    Calls Tryd.prog 4 #[.slice a ss.length cap] w fun e w' => e = .returned (.bool true) ∧ Below w.heap.size w w' := by
  by_cases hlong : 20 < ss.length
  · have hl1 : (20 : Int) < (ss.length : Int) := by omega
    have HA := Lib.hid (alive_any w hv)
    clear hlong hv
    go_enter Tryd.func4, Tryd.ntmps4
    go_wp2_with (go_at_call 7; refine HA.out.mono ?_)
    rintro e w1 ⟨rfl, hb1⟩
    go_wp2_with fail
    go_ret
    exact ⟨rfl, hb1⟩
  have hl1 : (ss.length : Int) ≤ 20 := by omega
  have hl : ss.length ≤ 20 := by omega
  have HC := Lib.hid hc
  have HV := Lib.hid hv
  clear hc hv hlong
  go_enter Tryd.func4, Tryd.ntmps4
  go_wp2_with fail
  go_loopg [3] ss.length (fun g i wr => ∃ k : Nat, g = ss.length - k ∧ k ≤ ss.length ∧ i = .int .i64 k ∧ (∀ s ∈ ss.take k, s.length ≤ 50) ∧ Below w.heap.size w wr)
  case atStart => exact ⟨0, rfl, Nat.zero_le _, rfl, by simp, Below.refl _ _⟩
  case round =>
    obtain ⟨k, rfl, hk, rfl, hall, hbr⟩ := hrel
    have HBr := Lib.hid hbr
    have HA := Lib.hid hall
    have hsz := hbr.size
    by_cases hlt : k < ss.length
    · have hki : (k : Int) < (ss.length : Int) := by omega
      obtain ⟨ad, rfl, hcell⟩ := (HC.out.below hbr) k hlt
      have htk : ss.take (k + 1) = ss.take k ++ [ss[k]] := List.take_succ_eq_append_getElem hlt
      generalize hss : ss[k] = s at hcell htk
      have HT := Lib.hid htk
      clear hbr hss htk hall
      by_cases h50 : 50 < s.length
      · have h50i : (50 : Int) < (s.length : Int) := by omega
        have hal := Lib.hid (fun n => alive_any (wr.drewN n) ((HV.out.below HBr.out).drew n))
        have hcd : ∀ n, (wr.drewN n).cell? (ad.add k) = some (.string ⟨s.toArray⟩) := fun n => hcell
        go_wp2_with fail
        go_quiet (fail)
        go_wp2_with (go_at_call 7; refine (hal.out _).mono ?_; first | rintro e w1 ⟨rfl, hb1⟩ | rintro e w1 rfl hb1)
        go_ret
        exact ⟨rfl, (bdrew HBr.out _).trans (hb1.mono hsz)⟩
      · have h50i : (s.length : Int) ≤ 50 := by omega
        have hgd : decide ((50 : Int) < (s.length : Int)) = false := by simp; omega
        have hq := Lib.hid (fun w => quote_any s (by omega) w)
        have hr := Lib.hid (fun w => rquote_any s (by omega) w)
        have hkb := World.block_lt_of_cell? wr _ hcell
        have hcd : wr.drew.cell? (ad.add k) = some (.string ⟨s.toArray⟩) := hcell
        go_wp2_with fail
        have hB0 : Below w.heap.size w wr.drew := bdrew HBr.out 1
        go_region_held3 (fun w' => w'.cell? (ad.add k) = some (.string ⟨s.toArray⟩) ∧ Below w.heap.size w w') (first | exact ⟨by assumption, by assumption⟩)
          (first
          | (go_at_call 13; refine (hq.out _).mono ?_; rintro e w1 ⟨rfl, hb1⟩; have hS := kept_on (by assumption) (by assumption) hb1; obtain ⟨hS1, hS2⟩ := hS)
          | (go_at_call 14; refine (hr.out _).mono ?_; rintro e w2 ⟨rfl, hb2⟩; have hS' := kept_on (by assumption) (by assumption) hb2; obtain ⟨hS1', hS2'⟩ := hS'))
        all_goals
          go_wp2_with fail
          go_roundg (ss.length - (k + 1))
          case measure => omega
          case rel =>
            refine ⟨k + 1, rfl, hlt, by go_num, ?_, hS2'⟩
            rw [HT.out]
            intro q hq'
            rcases List.mem_append.1 hq' with h | h
            · exact HA.out _ h
            · simp only [List.mem_singleton] at h; subst h; omega
    · have hki : ¬ (k : Int) < (ss.length : Int) := by omega
      obtain rfl : k = ss.length := by omega
      rw [List.take_of_length_le (Nat.le_refl _)] at hall
      have hal := Lib.hid (alive_any wr (HV.out.below hbr))
      have HD := Lib.hid (HC.out.below hbr)
      clear hbr hall
      go_wp2_with (go_at_call 7; refine hal.out.mono ?_)
      first | rintro e w1 rfl hb1 | rintro e w1 ⟨rfl, hb1⟩
      have hj := Lib.hid (join_any a cap ss w1 (HD.out.below hb1) (by omega) (fun s h => by have := HA.out s (by rw [List.take_of_length_le (Nat.le_refl _)]; exact h); omega))
      have HB1 := Lib.hid (HBr.out.trans (hb1.mono hsz))
      have HD1 := Lib.hid (HD.out.below hb1)
      clear hb1
      go_wp2_with (go_at_call 15; refine hj.out.mono ?_)
      first | rintro e w2 rfl hb2 | rintro e w2 ⟨rfl, hb2⟩
      have hj2 := Lib.hid (rjoin_any a cap ss w2 (HD1.out.below hb2) (by omega) (fun s h => by have := HA.out s (by rw [List.take_of_length_le (Nat.le_refl _)]; exact h); omega))
      have HB2 := Lib.hid (HB1.out.trans (hb2.mono HB1.out.size))
      clear hb2
      go_wp2_with (go_at_call 16; refine hj2.out.mono ?_)
      first | rintro e w3 rfl hb3 | rintro e w3 ⟨rfl, hb3⟩
      go_wp2_with fail
      go_ret
      exact ⟨rfl, HB2.out.trans (hb3.mono HB2.out.size)⟩
end Go.Proofs.YtnkhiaikdmpimaaDoor
