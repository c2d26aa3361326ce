/- cauterylaw33.LexAgain: THE WALK. -/
import Derived.Test.YtnkhiaikdmpimaaDoorLexR
import Derived.Test.YtnkhiaikdmpimaaDoorLexO
namespace Go.Proofs.YtnkhiaikdmpimaaDoor
open Go.RowKit Lx

theorem le_flatMap (s : List UInt8) : s.length ≤ (s.flatMap escByte).length := by
  induction s with
  | nil => exact Nat.zero_le _
  | cons c s ih =>
    have : 1 ≤ (escByte c).length := by
      unfold escByte
      split
      · decide
      · split
        · simp
        · split
          · simp
          · simp
    simp only [List.flatMap_cons, List.length_append, List.length_cons]; omega
theorem le_quote (s : List UInt8) : s.length ≤ (quoteB s).length := by
  unfold quoteB; split
  · exact Nat.le_refl _
  · simp only [List.length_cons, List.length_append, List.length_nil]; have := le_flatMap s; omega
theorem word_lens {s : List UInt8} {r : List W} (h : splitB s = some r) : ∀ x ∈ r.map W.s, x.length ≤ 4 * s.length := by
  have h1 := splitFrom_costs (Nat.le_refl _) (show splitFrom [] s = some r from h)
  simp only [costs] at h1
  intro x hx
  obtain ⟨y, hy, rfl⟩ := List.mem_map.1 hx
  have h2 : cost y ≤ costs r := by
    clear h1 h hx
    induction r with
    | nil => cases hy
    | cons z r ih =>
      rcases List.mem_cons.1 hy with rfl | hy
      · simp only [costs]; omega
      · have := ih hy; simp only [costs]; omega
  have h3 : y.s.length ≤ (quoteB y.s).length := le_quote y.s
  simp only [cost] at h2
  omega

set_option maxHeartbeats 2000000 in
set_option maxRecDepth 100000 in
theorem lexAgain_walk (line : List UInt8) (w : World) (hv : HasErr w) :
    Calls Tryd.prog 6 #[.string ⟨line.toArray⟩] w fun e w' => e = .returned (.bool true) ∧ Below w.heap.size w w' := by
  have HA0 := Lib.hid (alive_any w hv)
  by_cases hlong : 200 < line.length
  · have hl1 : (200 : Int) < (line.length : Int) := by omega
    clear hlong hv
    go_enter Tryd.func6, Tryd.ntmps6
    go_wp2_with (go_at_call 7; refine HA0.out.mono ?_)
    rintro e w1 ⟨rfl, hb1⟩
    go_wp2_with fail
    go_ret
    exact ⟨rfl, hb1⟩
  have hl1 : (line.length : Int) ≤ 200 := by omega
  have hl : line.length ≤ 200 := by omega
  have HV := Lib.hid hv
  have hs := Lib.hid (split_any line (by omega) w)
  clear hlong hv
  go_enter Tryd.func6, Tryd.ntmps6
  go_wp2_with (go_at_call 8; refine hs.out.mono ?_)
  rintro e w1 ⟨hws, hb1⟩
  unfold Words at hws
  rw [if_neg (by omega)] at hws
  have HB1 := Lib.hid hb1
  cases hsp : splitB line with
  | none =>
    rw [hsp] at hws
    obtain rfl := hws
    have hal := Lib.hid (alive_any w1 (HV.out.below hb1))
    clear hb1 hs
    go_wp2_with (go_at_call 7; refine hal.out.mono ?_)
    first | rintro e w2 rfl hb2 | rintro e w2 ⟨rfl, hb2⟩
    go_wp2_with fail
    go_ret
    exact ⟨rfl, HB1.out.trans (hb2.mono HB1.out.size)⟩
  | some ws =>
    rw [hsp] at hws
    obtain ⟨va, rfl, hoa⟩ := hws
    obtain ⟨aa, ca, rfl, _⟩ := word_cells hoa
    have hcount := split_count hsp
    have hlens := word_lens hsp
    have hagain := split_again hsp
    obtain ⟨ss, hss⟩ : ∃ ss, ss = ws.map W.s := ⟨_, rfl⟩
    have hsl : ss.length = ws.length := by rw [hss, List.length_map]
    rw [← hss] at hlens hagain
    have HLENS := Lib.hid hlens
    have HSS := Lib.hid hss
    have HSL := Lib.hid hsl
    obtain ⟨i0, hi0, hz0, hz1, hz2⟩ := info_parts infoStr
    have HI := Lib.hid hi0; have HI1 := Lib.hid hz0; have HI2 := Lib.hid hz1; have HI3 := Lib.hid hz2
    have HOA := Lib.hid hoa
    clear hb1 hs hsp hoa hlens hss hsl hi0 hz0 hz1 hz2
    go_wp2_with fail
    go_loopg [5, 6] ws.length (fun g vo i wr => ∃ k : Nat, g = ws.length - k ∧ k ≤ ws.length ∧ i = .int .i64 k ∧ wr.ownsRow w1.heap.size 9 1 vo k (scells (ss.take k)) ∧ Below w1.heap.size w1 wr)
    case atStart =>
      refine ⟨0, rfl, Nat.zero_le _, rfl, ⟨rfl, .inr ⟨w1.heap.size, 0, #[], rfl, Nat.le_refl _, heap_alloc_new _ _, Nat.le_refl _, by unfold maxLen; omega, rfl, rfl⟩⟩, (Below.refl _ _).alloc (Nat.le_refl _) _⟩
    case round =>
      obtain ⟨k, rfl, hk, rfl, hown, hbr⟩ := hrel
      have HBr := Lib.hid hbr
      have HO := Lib.hid hown
      have hsz := hbr.size
      by_cases hlt : k < ws.length
      · have hki : (k : Int) < (ws.length : Int) := by omega
        obtain ⟨a', c', hva, hca⟩ := word_cells (own_below HOA.out hbr)
        injection hva with hv1 hvl hv3
        clear hvl
        subst hv1
        subst hv3
        obtain ⟨ga, rfl, a1, _⟩ := hca k hlt
        have htk : ss.take (k + 1) = ss.take k ++ [ws[k].s] := by
          rw [HSS.out, List.take_succ_eq_append_getElem (by simpa using hlt), List.getElem_map]
        generalize ws[k].s = s at a1 htk
        have HT := Lib.hid htk
        clear hown hbr hca htk
        go_wp2_with (at_builtin; refine wpList_append_own _ rfl _ _ 35 rfl w1.heap.size 9 i0 (.string ByteArray.empty) 1 16 Tryd.underlying35 HI.out HI1.out HI2.out HI3.out rfl (by decide) _ _ _ rfl (own_alloc HO.out _) ⟨wr.heap.size, 0, none⟩ 1 1 [.string ⟨s.toArray⟩] rfl rfl ?c1 ?c2 ?c3 ?c4 ?c5 ?_)
        case c1 =>
          intro j u hj
          match j, hj with
          | 0, hj => simp at hj; subst hj; simp [Addr.add]
        case c2 => intro u hu; simp at hu; subst hu; rfl
        case c3 => unfold maxLen; omega
        case c4 => omega
        case c5 => simp; omega
        intro v' w2 hown' hgrow _
        go_wp2_with fail
        go_roundg (ws.length - (k + 1))
        case measure => omega
        case rel =>
          refine ⟨k + 1, rfl, hlt, by go_num, ?_, (HBr.out.alloc hsz _).grown hgrow (by simp; omega) (fun g hg => (own_lt HO.out hg).1)⟩
          rw [HT.out, scells_snoc]
          exact hown'
      · have hki : ¬ (k : Int) < (ws.length : Int) := by omega
        obtain rfl : k = ws.length := by omega
        rw [List.take_of_length_le (by rw [HSL.out]; exact Nat.le_refl _), ← HSL.out] at hown
        obtain ⟨ao, co, rfl, _, hcells⟩ := str_cells hown
        have hstrs : Strs wr ao ss := by
          intro k hk'
          obtain ⟨g, hg, hc⟩ := hcells k hk'
          refine ⟨_, hg, ?_⟩
          have hadd : (⟨g, 0, none⟩ : Addr).add k = ⟨g, k, none⟩ := by unfold Addr.add; split <;> simp_all
          rw [hadd]; exact hc
        have hj := Lib.hid (join_any ao co ss wr hstrs (by have := HSL.out; omega) (fun s h => by have := HLENS.out s h; omega))
        have HOA2 := Lib.hid (own_below HOA.out hbr)
        have hsl' : (ss.length : Int) = (ws.length : Int) := by have := HSL.out; omega
        clear hown hbr hcells hstrs HO HOA
        go_wp2_with (go_at_call 15; refine hj.out.mono ?_)
        first | rintro e w2 rfl hb2 | rintro e w2 ⟨rfl, hb2⟩
        have HB2 := Lib.hid (HBr.out.trans (hb2.mono hsz))
        have HOA3 := Lib.hid (own_below HOA2.out hb2)
        have hs2 := Lib.hid (split_any (joinB ss) (by omega) w2)
        clear hb2 hj HOA2
        go_wp2_with (go_at_call 8; refine hs2.out.mono ?_)
        first | rintro e w3 hws hb3 | rintro e w3 ⟨hws, hb3⟩
        unfold Words at hws
        rw [if_neg (by omega), split_join] at hws
        obtain ⟨vb, rfl, hob⟩ := hws
        obtain ⟨ab, cb, rfl, hcb⟩ := word_cells hob
        obtain ⟨a', c', hva, hca⟩ := word_cells (own_below HOA3.out hb3)
        injection hva with hv1 hvl hv3
        clear hvl
        subst hv1
        subst hv3
        have HB3 := Lib.hid (HB2.out.trans (hb3.mono HB2.out.size))
        have hlb : ((ss.map mkW).length : Int) = (ws.length : Int) := by rw [List.length_map]; exact hsl'
        have hlb' : (ss.map mkW).length = ws.length := by omega
        rw [hlb']
        have HCA := Lib.hid hca
        have HCB := Lib.hid hcb
        have HLB := Lib.hid hlb'
        have HBF := Lib.hid (HB1.out.trans (HB3.out.mono HB1.out.size))
        clear hs2 hb3 hob hcb hca hlb hlb' HB2 HOA3 hsl'
        go_wp2_with fail
        go_loopg [9] ws.length (fun g i wr => ∃ k n : Nat, g = ws.length - k ∧ k ≤ ws.length ∧ i = .int .i64 k ∧ wr = w3.drewN n)
        case atStart => exact ⟨0, 0, rfl, Nat.zero_le _, rfl, rfl⟩
        case round =>
          obtain ⟨k, n, rfl, hk, rfl, rfl⟩ := hrel
          by_cases hlt : k < ws.length
          · obtain ⟨ga, rfl, a1, _⟩ := HCA.out k hlt
            obtain ⟨gb, rfl, b1, _⟩ := HCB.out k (by rw [HLB.out]; exact hlt)
            have hki : (k : Int) < (ws.length : Int) := by omega
            have hsm : ((ss.map mkW)[k]'(by rw [HLB.out]; exact hlt)).s = ws[k].s := by
              rw [List.getElem_map]
              show ss[k]'(by rw [HSL.out]; exact hlt) = ws[k].s
              simp only [HSS.out, List.getElem_map]
            rw [hsm] at b1
            generalize ws[k].s = s at a1 b1
            clear hsm
            go_wp2_with fail
            go_quiet (fail)
            go_wp2_with fail
            go_roundg (ws.length - (k + 1))
            case measure => omega
            case rel => exact ⟨k + 1, _, rfl, hlt, by go_num, rfl⟩
          · have hki : ¬ (k : Int) < (ws.length : Int) := by omega
            have HALn := Lib.hid (alive_any (w3.drewN n) ((HV.out.below HBF.out).drew n))
            go_wp2_with (go_at_call 7; refine HALn.out.mono ?_; first | rintro e w5 rfl hb5 | rintro e w5 ⟨rfl, hb5⟩)
            go_ret
            exact ⟨rfl, (bdrew HBF.out n).trans (hb5.mono HBF.out.size)⟩
end Go.Proofs.YtnkhiaikdmpimaaDoor
