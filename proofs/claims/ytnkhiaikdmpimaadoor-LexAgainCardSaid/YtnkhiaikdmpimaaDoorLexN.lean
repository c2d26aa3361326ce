/- cauterylaw33.same AND alive. -/
import Derived.Test.YtnkhiaikdmpimaaDoorLexM
import Derived.Test.YtnkhiaikdmpimaaDoorLexI
import Derived.Test.YtnkhiaikdmpimaaDoorLexK
import Derived.Test.YtnkhiaikdmpimaaDoorLexJ
namespace Go.Proofs.YtnkhiaikdmpimaaDoor
open Go.RowKit Lx

theorem wcells_at (ws : List W) (k : Nat) (h : k < ws.length) : (wcells ws)[k * 2]? = some (.string ⟨ws[k].s.toArray⟩) ∧ (wcells ws)[k * 2 + 1]? = some (.bool ws[k].qd) := by
  induction ws generalizing k with
  | nil => cases h
  | cons x ws ih =>
    cases k with
    | zero => exact ⟨rfl, rfl⟩
    | succ k =>
      have := ih k (by simpa using h)
      simp only [wcells, List.getElem_cons_succ]
      rw [show (k + 1) * 2 = k * 2 + 1 + 1 by omega]
      exact this
/-- what a slice of words holds -/
theorem word_cells {w : World} {B : Nat} {e : TypeId} {v : Value} {ws : List W} (h : w.ownsRow B e 2 v ws.length (wcells ws)) :
    ∃ a cap, v = .slice a ws.length cap ∧ ∀ k (hk : k < ws.length), ∃ g, a = some ⟨g, 0, none⟩ ∧ w.cell? ⟨g, k * 2, none⟩ = some (.string ⟨ws[k].s.toArray⟩) ∧ w.cell? ⟨g, k * 2 + 1, none⟩ = some (.bool ws[k].qd) := by
  have hc := fun g hg => World.ownsRow.cells h (g := g) hg
  rcases h.2 with ⟨hv, hn⟩ | ⟨g, cap, cur, hv, _⟩
  · exact ⟨none, 0, by rw [hn]; exact hv, fun k hk => by omega⟩
  · refine ⟨some ⟨g, 0, none⟩, cap, hv, fun k hk => ⟨g, rfl, ?_⟩⟩
    have h1 := wcells_at ws k hk
    have h2 := hc g (by rw [hv]; rfl)
    have hadd : ∀ j, (⟨g, 0, none⟩ : Addr).add j = ⟨g, j, none⟩ := fun j => by unfold Addr.add; split <;> simp_all
    exact ⟨by rw [← hadd]; exact h2 _ _ h1.1, by rw [← hadd]; exact h2 _ _ h1.2⟩

set_option maxHeartbeats 1000000 in
set_option maxRecDepth 100000 in
theorem same_any (ws : List W) (hl : ws.length ≤ 100000) (B1 B2 : Nat) (va vb : Value) (w : World) (ha : w.ownsRow B1 40 2 va ws.length (wcells ws)) (hb : w.ownsRow B2 49 2 vb ws.length (wcells ws)) :
    Calls Tryd.prog 12 #[va, vb] w fun e w' => e = .returned (.bool true) ∧ ∃ n, w' = w.drewN n := by
  obtain ⟨aa, ca, rfl, hca⟩ := word_cells ha
  obtain ⟨ab, cb, rfl, hcb⟩ := word_cells hb
  have HA := Lib.hid hca
  have HB := Lib.hid hcb
  clear hca hcb ha hb
  go_enter Tryd.func12, Tryd.ntmps12
  go_wp2_with fail
  go_loopg [5] ws.length (fun g i wr => ∃ k n : Nat, g = ws.length - k ∧ k ≤ ws.length ∧ i = .int .i64 k ∧ wr = w.drewN n)
  case atStart => exact ⟨0, 0, rfl, Nat.zero_le _, rfl, rfl⟩
  case round =>
    obtain ⟨k, n, rfl, hk, rfl, rfl⟩ := hrel
    by_cases hlt : k < ws.length
    · obtain ⟨ga, rfl, a1, a2⟩ := HA.out k hlt
      obtain ⟨gb, rfl, b1, b2⟩ := HB.out k hlt
      have hki : (k : Int) < (ws.length : Int) := by omega
      generalize ws[k].s = s at a1 b1
      generalize ws[k].qd = q at a2 b2
      clear HA HB
      go_wp2_with fail
      go_quiet (fail)
      go_wp2_with fail
      go_roundg (ws.length - (k + 1))
      case measure => omega
      case rel => exact ⟨k + 1, n + nq, rfl, by omega, by go_num, rfl⟩
    · have hki : ¬ (k : Int) < (ws.length : Int) := by omega
      go_wp2_with fail
      go_ret
      exact ⟨rfl, _, rfl⟩

def aLine : List UInt8 := [119, 114, 105, 116, 101, 32, 97, 32, 34, 98, 32, 99, 34, 32, 35, 32, 120]
theorem split_aLine : splitB aLine = some [⟨[119, 114, 105, 116, 101], false⟩, ⟨[97], false⟩, ⟨[98, 32, 99], true⟩] := by decide +kernel
theorem number_most : number [49, 56, 52, 52, 54, 55, 52, 52, 48, 55, 51, 55, 48, 57, 53, 53, 49, 54, 49, 53] = (18446744073709551615, 0) := by decide +kernel
theorem quote_bc : quoteB [98, 32, 99] = [34, 98, 32, 99, 34] := by decide +kernel

set_option maxHeartbeats 1000000 in
set_option maxRecDepth 100000 in
theorem alive_any (w : World) (hv : HasErr w) :
    Calls Tryd.prog 7 #[] w fun e w' => e = .returned (.bool true) ∧ Below w.heap.size w w' := by
  have HS := Lib.hid (split_any aLine (by decide) w)
  go_enter Tryd.func7, Tryd.ntmps7
  go_wp2_with (go_at_call 8; refine HS.out.mono ?_)
  rintro e w1 ⟨hwords, hb1⟩
  unfold Words at hwords
  rw [if_neg (by decide), split_aLine] at hwords
  obtain ⟨v, rfl, hown⟩ := hwords
  obtain ⟨a, cap, rfl, hc⟩ := word_cells hown
  obtain ⟨g, rfl, _, hc1⟩ := hc 1 (by decide)
  obtain ⟨_, hg, hc2, hc3⟩ := hc 2 (by decide)
  obtain rfl := by simpa using hg
  have hN : Calls Tryd.prog 10 #[.string ⟨[49, 56, 52, 52, 54, 55, 52, 52, 48, 55, 51, 55, 48, 57, 53, 53, 49, 54, 49, 53].toArray⟩] w1 fun e w' => e = .returned (.tuple #[.int .u64 18446744073709551615, .int .i64 0]) ∧ Below w1.heap.size w1 w' := by
    have := number_any [49, 56, 52, 52, 54, 55, 52, 52, 48, 55, 51, 55, 48, 57, 53, 53, 49, 54, 49, 53] (by decide) w1 (hv.below hb1)
    rw [number_most] at this
    exact this
  have HN := Lib.hid hN
  have HV := Lib.hid hv
  have HB1 := Lib.hid hb1
  clear hc hg hN hv hb1 hown HS
  go_wp2_with (go_at_call 10; refine HN.out.mono ?_)
  rintro e w2 ⟨rfl, hb2⟩
  have hlt := World.block_lt_of_cell? w1 _ hc1
  have c1 := (hb2.cell (p := ⟨g, 3, none⟩) hlt).trans hc1
  have c2 := (hb2.cell (p := ⟨g, 4, none⟩) hlt).trans hc2
  have c3 := (hb2.cell (p := ⟨g, 5, none⟩) hlt).trans hc3
  have hQ := quote_any [98, 32, 99] (by decide) w2
  rw [quote_bc] at hQ
  have HQ := Lib.hid hQ
  have HB2 := Lib.hid (HB1.out.trans (hb2.mono HB1.out.size))
  have HB3 := Lib.hid (hb2.size)
  clear hQ hb2 hc1 hc2 hc3 hlt HN
  go_wp2_with (go_at_call 13; refine HQ.out.mono ?_)
  rintro e w3 ⟨rfl, hb3⟩
  go_wp2_with fail
  go_ret
  exact ⟨rfl, HB2.out.trans (hb3.mono HB2.out.size)⟩
end Go.Proofs.YtnkhiaikdmpimaaDoor
