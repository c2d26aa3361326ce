/- cauterylaw33.LexSplit: THE WALK. -/
import Derived.Test.YtnkhiaikdmpimaaDoorLexN
namespace Go.Proofs.YtnkhiaikdmpimaaDoor
open Go.RowKit Lx

theorem le_costs (l : List W) : l.length ≤ costs l := by
  induction l with
  | nil => exact Nat.zero_le _
  | cons x l ih => simp only [List.length_cons, costs, cost]; omega
theorem split_count {s : List UInt8} {r : List W} (h : splitB s = some r) : r.length ≤ 4 * s.length := by
  have h1 := splitFrom_costs (Nat.le_refl _) (show splitFrom [] s = some r from h)
  have h2 := le_costs r
  simp only [costs] at h1
  omega

set_option maxHeartbeats 2000000 in
set_option maxRecDepth 100000 in
theorem lexSplit_walk (line : List UInt8) (w : World) (hv : HasErr w) :
    Calls Tryd.prog 3 #[.string ⟨line.toArray⟩] w fun e w' => e = .returned (.bool true) ∧ Below w.heap.size w w' := by
  by_cases hlong : 1010 < line.length
  · have hl1 : (1010 : Int) < (line.length : Int) := by omega
    have HA := Lib.hid (alive_any w hv)
    clear hlong hv
    go_enter Tryd.func3, Tryd.ntmps3
    go_wp2_with (go_at_call 7; refine HA.out.mono ?_)
    rintro e w1 ⟨rfl, hb1⟩
    go_wp2_with fail
    go_ret
    exact ⟨rfl, hb1⟩
  have hl1 : (line.length : Int) ≤ 1010 := by omega
  have hl : line.length ≤ 9223372036854775807 := by omega
  obtain ⟨ws, en, hws, hW, hR⟩ : ∃ (ws : List W) (en : Int), ws.length ≤ 100000 ∧ (∀ w' B e, Words w' B line e → ∃ v, e = .returned (.tuple #[v, .int .i64 en]) ∧ w'.ownsRow B 40 2 v ws.length (wcells ws)) ∧
      (∀ w' B e, RWords w' B line e → ∃ v, e = .returned (.tuple #[v, .int .i64 en]) ∧ w'.ownsRow B 49 2 v ws.length (wcells ws)) := by
    unfold Words RWords
    by_cases h1 : 1000 < line.length
    · refine ⟨[], 4, by decide, ?_, ?_⟩
      · intro w' B e h; rw [if_pos h1] at h; exact ⟨_, h, rfl, .inl ⟨rfl, rfl⟩⟩
      · intro w' B e h; rw [if_pos h1] at h; exact ⟨_, h, rfl, .inl ⟨rfl, rfl⟩⟩
    · cases hs : splitB line with
      | none =>
        refine ⟨[], 3, by decide, ?_, ?_⟩
        · intro w' B e h; rw [if_neg h1] at h; exact ⟨_, h, rfl, .inl ⟨rfl, rfl⟩⟩
        · intro w' B e h; rw [if_neg h1] at h; exact ⟨_, h, rfl, .inl ⟨rfl, rfl⟩⟩
      | some ws =>
        refine ⟨ws, 0, ?_, ?_, ?_⟩
        · have := split_count hs; omega
        · intro w' B e h; rw [if_neg h1] at h; exact h
        · intro w' B e h; rw [if_neg h1] at h; exact h
  have HW := Lib.hid hW
  have HR := Lib.hid hR
  have H1 := Lib.hid (split_any line hl w)
  have HV := Lib.hid hv
  have HL := Lib.hid hl
  have HWS := Lib.hid hws
  clear hW hR hl hlong hv hws
  go_enter Tryd.func3, Tryd.ntmps3
  go_wp2_with (go_at_call 8; refine H1.out.mono ?_)
  rintro e w1 ⟨h, hb1⟩
  obtain ⟨va, rfl, ha⟩ := HW.out _ _ _ h
  obtain ⟨aa, ca, rfl, _⟩ := word_cells ha
  have H2 := Lib.hid (rsplit_any line HL.out w1)
  have HO := Lib.hid ha
  have HB1 := Lib.hid hb1
  clear h H1 ha hb1
  go_wp2_with (go_at_call 9; refine H2.out.mono ?_)
  rintro e w2 ⟨h, hb2⟩
  obtain ⟨vb, rfl, hb⟩ := HR.out _ _ _ h
  obtain ⟨ab, cb, rfl, _⟩ := word_cells hb
  have HB2 := Lib.hid (HB1.out.trans (hb2.mono HB1.out.size))
  have HO2 := Lib.hid (own_below HO.out hb2)
  have HP := Lib.hid hb
  have H3 := Lib.hid (number_any line HL.out w2 (HV.out.below HB2.out))
  clear h H2 hb hb2 HO HB1
  go_wp2_with (go_at_call 10; refine H3.out.mono ?_)
  rintro e w3 ⟨rfl, hb3⟩
  have HB3 := Lib.hid (HB2.out.trans (hb3.mono HB2.out.size))
  have HO3 := Lib.hid (own_below HO2.out hb3)
  have HP3 := Lib.hid (own_below HP.out hb3)
  have H4 := Lib.hid (rnumber_any line HL.out w3)
  clear H3 hb3 HO2 HP HB2
  go_wp2_with (go_at_call 11; refine H4.out.mono ?_)
  rintro e w4 ⟨rfl, rfl⟩
  have H5 := Lib.hid (alive_any w3 (HV.out.below HB3.out))
  clear H4
  go_wp2_with (go_at_call 7; refine H5.out.mono ?_)
  rintro e w5 ⟨rfl, hb5⟩
  have HB5 := Lib.hid (HB3.out.trans (hb5.mono HB3.out.size))
  have H6 := Lib.hid (same_any ws HWS.out _ _ _ _ w5 (own_below HO3.out hb5) (own_below HP3.out hb5))
  clear H5 hb5
  go_wp2_with (go_at_call 12; refine H6.out.mono ?_)
  rintro e w6 ⟨rfl, n, rfl⟩
  go_wp2_with fail
  go_ret
  exact ⟨rfl, bdrew HB5.out n⟩
end Go.Proofs.YtnkhiaikdmpimaaDoor
