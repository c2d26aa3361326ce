/- cauterylaw34.alive: command.Parse at a fixed line, and at the empty one. -/
import Derived.Test.YtnkhiaikdmpimaaGreatDoorCmdP
import Derived.Test.YtnkhiaikdmpimaaGreatDoorCmdM
import Derived.Test.YtnkhiaikdmpimaaGreatDoorLexG
import Derived.Deep.RegionHeld3
namespace Go.Proofs.YtnkhiaikdmpimaaGreatDoor
open Go.RowKit Lx

theorem wcells_two (ws : List W) (k : Nat) (h : k < ws.length) : (wcells ws)[k * 2]? = some (.string ⟨ws[k].s.toArray⟩) ∧ (wcells ws)[k * 2 + 1]? = some (.bool ws[k].qd) := by
  induction ws generalizing k with
  | nil => cases h
  | cons x ws ih =>
    cases k with
    | zero => exact ⟨rfl, rfl⟩
    | succ k =>
      have := ih k (by simpa using h)
      simp only [wcells, List.getElem_cons_succ]
      rw [show (k + 1) * 2 = k * 2 + 1 + 1 by omega]
      exact this
theorem own_words {w : World} {B : Nat} {e : TypeId} {v : Value} {ws : List W} (h : w.ownsRow B e 2 v ws.length (wcells ws)) :
    ∃ a cap, v = .slice a ws.length cap ∧ ws.length ≤ cap ∧ ∀ k (hk : k < ws.length), ∃ g, a = some ⟨g, 0, none⟩ ∧ w.cell? ⟨g, k * 2, none⟩ = some (.string ⟨ws[k].s.toArray⟩) ∧ w.cell? ⟨g, k * 2 + 1, none⟩ = some (.bool ws[k].qd) := by
  have hc := fun g hg => World.ownsRow.cells h (g := g) hg
  rcases h.2 with ⟨hv, hn⟩ | ⟨g, cap, cur, hv, _, _, hcap, _⟩
  · exact ⟨none, 0, by rw [hn]; exact hv, by omega, fun k hk => by omega⟩
  · refine ⟨some ⟨g, 0, none⟩, cap, hv, hcap, fun k hk => ⟨g, rfl, ?_⟩⟩
    have h1 := wcells_two ws k hk
    have h2 := hc g (by rw [hv]; rfl)
    exact ⟨by rw [← add_at]; exact h2 _ _ h1.1, by rw [← add_at]; exact h2 _ _ h1.2⟩

def lineA : List UInt8 := [111, 116, 104, 101, 114, 32, 119, 114, 105, 116, 101, 32, 97, 32, 51, 32, 34, 120, 32, 121, 34]
def argsA : List W := [⟨[97], false⟩, ⟨[51], false⟩, ⟨[120, 32, 121], true⟩]
theorem split_lineA : splitB lineA = some (⟨v_other, false⟩ :: ⟨v_write, false⟩ :: argsA) := by decide +kernel
def cmdA : Cmd := ⟨true, v_write, [97], [], [], [120, 32, 121], 3, 0, Pol.zero⟩
theorem taken_lineA : takenP { Cmd.zero with second := true, verb := v_write } [0, 3, 4] argsA = some cmdA := by decide +kernel
theorem rows_write : rowsP v_write = [[0, 3, 4]] := rfl

set_option maxHeartbeats 1000000 in
set_option maxRecDepth 100000 in
theorem parse_nil (w : World) :
    Calls Tryz.prog 13 #[.string ⟨#[]⟩] w fun e w' => e = .returned (.tuple #[encCmd Cmd.zero, .int .i64 5]) ∧ Below w.heap.size w w' := by
  have HS := Lib.hid (fun w => split_any [] (by decide) w)
  go_enter Tryz.func13, Tryz.ntmps13
  go_wp2_with (go_at_call 24; refine (HS.out _).mono ?_)
  rintro e w1 ⟨hwords, hb1⟩
  unfold Words at hwords
  rw [if_neg (by decide), show splitB [] = some [] from by decide +kernel] at hwords
  obtain ⟨v, rfl, hown⟩ := hwords
  obtain ⟨a, cap, rfl, hcap, hc⟩ := own_words hown
  have hz : BoxOf w1 w.heap.size 26 Cmd.zero := box_below hb1
  have HB := Lib.hid (((Below.refl w.heap.size w).alloc (Nat.le_refl _) _).trans (hb1.mono (by rw [World.size_alloc]; omega)))
  have HZ := Lib.hid hz
  obtain ⟨f0, f1, f2, f3, f4, f5, f6, f7, f8, f9, f10, f11, f12⟩ := hz.frozens
  obtain ⟨e0, e1, e2, e3, e4, e5, e6, e7, e8, e9, e10, e11, e12⟩ := hz.cells
  clear hown hc hb1 hz
  go_wp2_with fail
  refine bodyPost_ret (v := .tuple #[encCmd Cmd.zero, .int .i64 5]) (by refine ret_cmd (p := 2) (u := 3) rfl _ _ w.heap.size Cmd.zero ?_ ?_; rfl; exact box_store HZ.out Cmd.zero) rfl ?_
  exact ⟨rfl, below_gb1 HB.out HB.out.size (Nat.le_refl _) (gb_store (gb_refl _ _) Cmd.zero)⟩

theorem words_lineA {w : World} {B : Nat} {e : TypeId} {v : Value} (h : w.ownsRow B e 2 v (⟨v_other, false⟩ :: ⟨v_write, false⟩ :: argsA).length (wcells (⟨v_other, false⟩ :: ⟨v_write, false⟩ :: argsA))) :
    ∃ g cap : Nat, v = .slice (some ⟨g, 0, none⟩) 5 cap ∧ 5 ≤ cap ∧ w.cell? ⟨g, 0, none⟩ = some (.string ⟨(v_other : List UInt8).toArray⟩) ∧ w.cell? ⟨g, 1, none⟩ = some (.bool false) ∧ w.cell? ⟨g, 2, none⟩ = some (.string ⟨(v_write : List UInt8).toArray⟩) ∧ w.cell? ⟨g, 3, none⟩ = some (.bool false) ∧ w.cell? ⟨g, 4, none⟩ = some (.string ⟨([97] : List UInt8).toArray⟩) ∧ w.cell? ⟨g, 5, none⟩ = some (.bool false) ∧ w.cell? ⟨g, 6, none⟩ = some (.string ⟨([51] : List UInt8).toArray⟩) ∧ w.cell? ⟨g, 7, none⟩ = some (.bool false) ∧ w.cell? ⟨g, 8, none⟩ = some (.string ⟨([120, 32, 121] : List UInt8).toArray⟩) ∧ w.cell? ⟨g, 9, none⟩ = some (.bool true) := by
  obtain ⟨a, cap, hv, hcap, hc⟩ := own_words h
  obtain ⟨g, rfl, q0, q1⟩ := hc 0 (by decide)
  obtain ⟨_, hg1, q2, q3⟩ := hc 1 (by decide)
  obtain rfl := by simpa using hg1
  obtain ⟨_, hg2, q4, q5⟩ := hc 2 (by decide)
  obtain rfl := by simpa using hg2
  obtain ⟨_, hg3, q6, q7⟩ := hc 3 (by decide)
  obtain rfl := by simpa using hg3
  obtain ⟨_, hg4, q8, q9⟩ := hc 4 (by decide)
  obtain rfl := by simpa using hg4
  exact ⟨g, cap, hv, hcap, q0, q1, q2, q3, q4, q5, q6, q7, q8, q9⟩

def cmd0 : Cmd := { Cmd.zero with second := true, verb := v_write }
theorem cmd0_cells {w : World} {b : Nat} {T : TypeId} (h : BoxOf w b T cmd0) : w.cell? ⟨b, 0, none⟩ = some (.bool true) ∧ w.cell? ⟨b, 1, none⟩ = some (.string ⟨v_write.toArray⟩) ∧ w.cell? ⟨b, 2, none⟩ = some (.string ⟨#[]⟩) ∧ w.cell? ⟨b, 3, none⟩ = some (.string ⟨#[]⟩) ∧ w.cell? ⟨b, 4, none⟩ = some (.string ⟨#[]⟩) ∧ w.cell? ⟨b, 5, none⟩ = some (.string ⟨#[]⟩) ∧ w.cell? ⟨b, 6, none⟩ = some (.int .i64 0) ∧ w.cell? ⟨b, 7, none⟩ = some (.int .u64 0) ∧ w.cell? ⟨b, 8, none⟩ = some (.int .i64 0) ∧ w.cell? ⟨b, 9, none⟩ = some (.int .i64 0) ∧ w.cell? ⟨b, 10, none⟩ = some (.int .i64 0) ∧ w.cell? ⟨b, 11, none⟩ = some (.int .i64 0) ∧ w.cell? ⟨b, 12, none⟩ = some (.int .i64 0) :=
  ⟨box_at h 0 _ rfl, box_at h 1 _ rfl, box_at h 2 _ rfl, box_at h 3 _ rfl, box_at h 4 _ rfl, box_at h 5 _ rfl, box_at h 6 _ rfl, box_at h 7 _ rfl, box_at h 8 _ rfl, box_at h 9 _ rfl, box_at h 10 _ rfl, box_at h 11 _ rfl, box_at h 12 _ rfl⟩
theorem rows_lone {w : World} {v : Value} {r : List Nat} (h : RowsAt w v [r]) : ∃ ad cap rv, v = .slice (some ad) 1 cap ∧ w.cell? ad = some rv ∧ RowAt w rv r := by
  obtain ⟨a, cap, hv, hc⟩ := h
  obtain ⟨ad, rv, rfl, hcell, hrow⟩ := hc 0 (by simp)
  have hz : ad.add 0 = ad := by unfold Addr.add; split <;> simp_all
  rw [hz] at hcell
  exact ⟨ad, cap, rv, hv, hcell, hrow⟩

set_option maxHeartbeats 4000000 in
set_option maxRecDepth 100000 in
theorem parse_lineA (w : World) (hv : HasErr w) (ht : Tab w) :
    Calls Tryz.prog 13 #[.string ⟨lineA.toArray⟩] w fun e w' => e = .returned (.tuple #[encCmd cmdA, .int .i64 0]) ∧ Below w.heap.size w w' := by
  have HS := Lib.hid (fun w => split_any lineA (by decide) w)
  have HV := Lib.hid hv
  have HT := Lib.hid ht
  clear hv ht
  generalize hla : lineA = la at *
  have HLA := Lib.hid hla
  clear hla
  go_enter Tryz.func13, Tryz.ntmps13
  go_wp2_with (go_at_call 24; refine (HS.out _).mono ?_)
  rintro e w1 ⟨hwords, hb1⟩
  unfold Words at hwords
  rw [← HLA.out, if_neg (by decide), split_lineA] at hwords
  obtain ⟨v, rfl, hown⟩ := hwords
  obtain ⟨g, cap, hvv, hcap, q0, q1, q2, q3, q4, q5, q6, q7, q8, q9⟩ := words_lineA hown
  obtain ⟨m, rfl⟩ : ∃ m, cap = m + 5 := ⟨cap - 5, by omega⟩
  subst hvv
  clear hcap
  have hz : BoxOf w1 w.heap.size 26 Cmd.zero := box_below hb1
  have HB := Lib.hid (((Below.refl w.heap.size w).alloc (Nat.le_refl _) _).trans (hb1.mono (by rw [World.size_alloc]; omega)))
  have HZ := Lib.hid hz
  have HI := Lib.hid (fun w => isThe_any ⟨v_other, false⟩ v_other w)
  rw [show isTheP ⟨v_other, false⟩ v_other = true from rfl] at HI
  have hglt : g < w1.heap.size := World.block_lt_of_cell? w1 _ q0
  have hNlt : w.heap.size < w1.heap.size := hz.lt
  clear hown hb1 hz
  go_wp2_with (go_at_call 25; refine (HI.out _).mono ?_)
  first | rintro e w2 rfl hb2 | rintro e w2 ⟨rfl, hb2⟩
  have hcz : BoxOf w2 w1.heap.size 26 Cmd.zero := box_below hb2
  have hB12 := (Below.refl w1.heap.size w1).alloc (Nat.le_refl _) (.cells #[.bool Cmd.zero.second, .string ⟨Cmd.zero.verb.toArray⟩, .string ⟨Cmd.zero.set.toArray⟩, .string ⟨Cmd.zero.snap.toArray⟩, .string ⟨Cmd.zero.other.toArray⟩, .string ⟨Cmd.zero.text.toArray⟩, .int .i64 Cmd.zero.cell, .int .u64 Cmd.zero.now, .int .i64 Cmd.zero.keep.last, .int .i64 Cmd.zero.keep.hours, .int .i64 Cmd.zero.keep.days, .int .i64 Cmd.zero.keep.weeks, .int .i64 Cmd.zero.keep.months] 26)
  have hb12 : Below w1.heap.size w1 w2 := hB12.trans (hb2.mono (by rw [World.size_alloc]; omega))
  have HB2 := Lib.hid hb12
  have HCZ := Lib.hid hcz
  have HZ2 := Lib.hid (HZ.out.below hb12)
  have p2 := kept_one q2 hb12; have p3 := kept_one q3 hb12; have p4 := kept_one q4 hb12; have p5 := kept_one q5 hb12; have p6 := kept_one q6 hb12; have p7 := kept_one q7 hb12; have p8 := kept_one q8 hb12; have p9 := kept_one q9 hb12
  have f0 := hcz.frozen 0
  have e0 := hcz.cells.1
  have hclt := hcz.lt
  clear q0 q1 q2 q3 q4 q5 q6 q7 q8 q9 hb2 hcz hb12 hB12
  go_wp2_with fail
  go_region_held3 (fun w' => True) (first | trivial) (first | fail)
  obtain ⟨W3, hW3⟩ : ∃ W3, (w2.setCell ⟨w1.heap.size, 0, none⟩ (.bool true)).drew = W3 := ⟨_, rfl⟩
  rw [hW3]
  have hc3 : BoxOf W3 w1.heap.size 26 { Cmd.zero with second := true } := by rw [← hW3]; exact heap_set HCZ.out 0 (.bool true)
  have hgb3 : w2.grownBy W3 (some w1.heap.size) := by rw [← hW3]; exact gb_trans (gb_set (gb_refl w2 _) 0 (.bool true)) (gb_below (bdrew (Below.refl _ _) 1) _)
  have hne : (some w1.heap.size : Option Nat) ≠ some g := by intro e; injection e with e; omega
  have s2 := kept_grown p2 hgb3 hne; have s3 := kept_grown p3 hgb3 hne; have s4 := kept_grown p4 hgb3 hne; have s5 := kept_grown p5 hgb3 hne; have s6 := kept_grown p6 hgb3 hne; have s7 := kept_grown p7 hgb3 hne; have s8 := kept_grown p8 hgb3 hne; have s9 := kept_grown p9 hgb3 hne
  have HZ3 := Lib.hid (HZ2.out.gb hgb3 (by intro e; injection e with e; omega))
  have HG3 := Lib.hid hgb3
  have HC3 := Lib.hid hc3
  have f1 := hc3.frozen 1
  have e1 := hc3.cells.2.1
  have hclt3 := hc3.lt
  clear hW3 hc3 hgb3 p2 p3 p4 p5 p6 p7 p8 p9 f0 e0 hclt
  have HRW := Lib.hid (fun w => rows_any v_write w)
  rw [rows_write] at HRW
  go_wp2_with (go_at_call 26; refine (HRW.out _).mono ?_)
  rintro e w4 v rfl hrs hb4
  have hsz3 : (W3.setCell ⟨w1.heap.size, 1, none⟩ (.string ⟨v_write.toArray⟩)).heap.size = W3.heap.size := by simp [World.setCell]
  rw [← hsz3] at hb4
  have hgb4 : W3.grownBy w4 (some w1.heap.size) := gb_trans (gb_set (gb_refl W3 _) 1 (.string ⟨v_write.toArray⟩)) (gb_below hb4 _)
  have hc4 : BoxOf w4 w1.heap.size 26 cmd0 := BoxOf.below (show BoxOf (W3.setCell ⟨w1.heap.size, 1, none⟩ (.string ⟨v_write.toArray⟩)) w1.heap.size 26 cmd0 from heap_set HC3.out 1 _) hb4
  have t4 := kept_grown s4 hgb4 hne; have t5 := kept_grown s5 hgb4 hne; have t6 := kept_grown s6 hgb4 hne; have t7 := kept_grown s7 hgb4 hne; have t8 := kept_grown s8 hgb4 hne; have t9 := kept_grown s9 hgb4 hne
  have HZ4 := Lib.hid (HZ3.out.gb hgb4 (by intro e; injection e with e; omega))
  have hBw4 : Below w1.heap.size w1 w4 := below_gb (below_gb HB2.out HB2.out.size HG3.out) (by have h1 := HB2.out.size; have h2 := HG3.out.size; omega) hgb4
  have HBW4 : Hid (Below w.heap.size w w4) := Lib.hid (HB.out.trans (hBw4.mono HB.out.size))
  obtain ⟨ad, rcap, rv, rfl, hcell, hrow⟩ := rows_lone hrs
  have hws : WAt w4 (.slice (some ⟨g, 4, none⟩) 3 (m + 3)) argsA := by
    refine ⟨_, _, rfl, fun k hk => ?_⟩
    match k, hk with
    | 0, _ => exact ⟨g, 4, rfl, t4, t5⟩
    | 1, _ => exact ⟨g, 4, rfl, t6, t7⟩
    | 2, _ => exact ⟨g, 4, rfl, t8, t9⟩
  have h14 : w1.heap.size < w4.heap.size := hc4.lt
  obtain ⟨ra, rc, hrv, hrcells⟩ := hrow
  have hrow : RowAt w4 rv [0, 3, 4] := ⟨ra, rc, hrv, hrcells⟩
  have HTK : Hid (∀ W, Below w4.heap.size w4 W → Calls Tryz.prog 27 #[.agg #[.bool true, .string ⟨v_write.toArray⟩, .string ⟨#[]⟩, .string ⟨#[]⟩, .string ⟨#[]⟩, .string ⟨#[]⟩, .int .i64 0, .int .u64 0, .int .i64 0, .int .i64 0, .int .i64 0, .int .i64 0, .int .i64 0], rv, .slice (some ⟨g, 4, none⟩) 3 (m + 3)] W fun e w' => e = .returned (.tuple #[.agg #[.bool true, .string ⟨v_write.toArray⟩, .string ⟨#[97]⟩, .string ⟨#[]⟩, .string ⟨#[]⟩, .string ⟨#[120, 32, 121]⟩, .int .i64 3, .int .u64 0, .int .i64 0, .int .i64 0, .int .i64 0, .int .i64 0, .int .i64 0], .bool true]) ∧ Below W.heap.size W w') := Lib.hid (fun W hW => (taken_any cmd0 rv [0, 3, 4] _ argsA W (hrow.below hW) (by decide) (by decide) (hws.below hW) (by decide) (by decide) (HV.out.below (HBW4.out.trans (hW.mono HBW4.out.size))) (HT.out.below (HBW4.out.trans (hW.mono HBW4.out.size))) (fun x _ => .inr (by decide))).mono (by
    rintro e w' ⟨⟨d, rfl, hd⟩, hb⟩
    have h1 : takenP cmd0 [0, 3, 4] argsA = some cmdA := taken_lineA
    rw [h1] at hd ⊢
    obtain rfl := hd _ rfl
    exact ⟨rfl, hb⟩))
  have HC4 := Lib.hid hc4
  have x4 : BoxOf w4.drew w1.heap.size 26 cmd0 := hc4
  subst hrv
  have HTK2 : Hid (∀ W, Below w4.heap.size w4 W → Calls Tryz.prog 27 #[.agg #[.bool true, .string ⟨v_write.toArray⟩, .string ⟨#[]⟩, .string ⟨#[]⟩, .string ⟨#[]⟩, .string ⟨#[]⟩, .int .i64 0, .int .u64 0, .int .i64 0, .int .i64 0, .int .i64 0, .int .i64 0, .int .i64 0], .slice ra 3 rc, .slice (some ⟨g, 4, none⟩) 3 (m + 3)] W fun e w' => e = .returned (.tuple #[.agg #[.bool true, .string ⟨v_write.toArray⟩, .string ⟨#[97]⟩, .string ⟨#[]⟩, .string ⟨#[]⟩, .string ⟨#[120, 32, 121]⟩, .int .i64 3, .int .u64 0, .int .i64 0, .int .i64 0, .int .i64 0, .int .i64 0, .int .i64 0], .bool true]) ∧ Below W.heap.size W w') := HTK
  clear HTK hgb4 hb4 hrs hsz3 hws t4 t5 t6 t7 t8 t9 s2 s3 s4 s5 s6 s7 s8 s9 f1 e1 hclt3 hc4 hrow hrcells
  go_wp2_with fail
  go_rounds 1
  go_upto_region 15 with fail
  go_cut [9, 10] (fun vp vo wx => ∃ b : Nat, vp = .pointer (some ⟨b, 0, none⟩) ∧ vo = .bool true ∧ BoxOf wx b 26 cmdA ∧ b ≠ w.heap.size ∧ BoxOf wx w.heap.size 26 Cmd.zero ∧ Below w.heap.size w wx)
  case first =>
    have HD4 : Below w4.heap.size w4 w4.drew := bdrew (Below.refl w4.heap.size w4) 1
    have HD4A : ∀ o, Below w4.heap.size w4 (w4.alloc o).drew := fun o => bdrew ((Below.refl w4.heap.size w4).alloc (Nat.le_refl _) o) 1
    have XS : ∀ w5 : World, BoxOf w5 w1.heap.size 26 cmd0 → BoxOf (((((((((((((w5.setCell ⟨w4.heap.size, 0, none⟩ (.bool true)).setCell ⟨w4.heap.size, 1, none⟩ (.string ⟨v_write.toArray⟩)).setCell ⟨w4.heap.size, 2, none⟩ (.string ⟨#[97]⟩)).setCell ⟨w4.heap.size, 3, none⟩ (.string ⟨#[]⟩)).setCell ⟨w4.heap.size, 4, none⟩ (.string ⟨#[]⟩)).setCell ⟨w4.heap.size, 5, none⟩ (.string ⟨#[120, 32, 121]⟩)).setCell ⟨w4.heap.size, 6, none⟩ (.int .i64 3)).setCell ⟨w4.heap.size, 7, none⟩ (.int .u64 0)).setCell ⟨w4.heap.size, 8, none⟩ (.int .i64 0)).setCell ⟨w4.heap.size, 9, none⟩ (.int .i64 0)).setCell ⟨w4.heap.size, 10, none⟩ (.int .i64 0)).setCell ⟨w4.heap.size, 11, none⟩ (.int .i64 0)).setCell ⟨w4.heap.size, 12, none⟩ (.int .i64 0)) w1.heap.size 26 cmd0 := fun w5 h => BoxOf.gb h (gb_store (gb_refl w5 (some w4.heap.size)) cmdA) (by intro e; injection e with e; omega)
    have Y4A : BoxOf (w4.alloc (.cells #[.bool false, .string ⟨#[]⟩, .string ⟨#[]⟩, .string ⟨#[]⟩, .string ⟨#[]⟩, .string ⟨#[]⟩, .int .i64 0, .int .u64 0, .int .i64 0, .int .i64 0, .int .i64 0, .int .i64 0, .int .i64 0] 26)).drew w4.heap.size 26 Cmd.zero := heap_alloc_new w4 _
    have X4A : ∀ o, BoxOf (w4.alloc o).drew w1.heap.size 26 cmd0 := fun o => HC4.out.below (bdrew ((Below.refl _ _).alloc (Nat.le_refl _) o) 1)
    go_region_held3 (fun w' => w'.cell? ⟨w1.heap.size, 0, none⟩ = some (.bool true) ∧ w'.cell? ⟨w1.heap.size, 1, none⟩ = some (.string ⟨v_write.toArray⟩) ∧ w'.cell? ⟨w1.heap.size, 2, none⟩ = some (.string ⟨#[]⟩) ∧ w'.cell? ⟨w1.heap.size, 3, none⟩ = some (.string ⟨#[]⟩) ∧ w'.cell? ⟨w1.heap.size, 4, none⟩ = some (.string ⟨#[]⟩) ∧ w'.cell? ⟨w1.heap.size, 5, none⟩ = some (.string ⟨#[]⟩) ∧ w'.cell? ⟨w1.heap.size, 6, none⟩ = some (.int .i64 0) ∧ w'.cell? ⟨w1.heap.size, 7, none⟩ = some (.int .u64 0) ∧ w'.cell? ⟨w1.heap.size, 8, none⟩ = some (.int .i64 0) ∧ w'.cell? ⟨w1.heap.size, 9, none⟩ = some (.int .i64 0) ∧ w'.cell? ⟨w1.heap.size, 10, none⟩ = some (.int .i64 0) ∧ w'.cell? ⟨w1.heap.size, 11, none⟩ = some (.int .i64 0) ∧ w'.cell? ⟨w1.heap.size, 12, none⟩ = some (.int .i64 0))
      (first | with_reducible exact cmd0_cells x4 | with_reducible exact cmd0_cells (X4A _) | with_reducible exact cmd0_cells x5 | with_reducible exact cmd0_cells (X5A _) | with_reducible exact cmd0_cells (XS _ x5))
      (first | (go_at_call 27; with_reducible refine (HTK2.out _ ?hw).mono ?_; (case hw => first | exact HD4 | exact HD4A _); rintro e w5 ⟨rfl, hb5⟩; have hb45 : Below w4.heap.size w4 w5 := (by first | exact HD4.trans (hb5.mono HD4.size) | exact (HD4A _).trans (hb5.mono (HD4A _).size)); have x5 := HC4.out.below hb45; have X5A : ∀ o, BoxOf (w5.alloc o) w1.heap.size 26 cmd0 := (fun o => x5.below ((Below.refl _ _).alloc (Nat.le_refl _) o)); (try have y5 := BoxOf.below Y4A hb5); (try have hy5 := y5.frozens); (try have hy5l := y5.lt); (try have hy5c := y5.cells); (try obtain ⟨e0, e1, e2, e3, e4, e5, e6, e7, e8, e9, e10, e11, e12⟩ := hy5c); (try obtain ⟨f0, f1, f2, f3, f4, f5, f6, f7, f8, f9, f10, f11, f12⟩ := hy5)))
    · have hw45 := hb45.size
      have hz5 := HZ4.out.below hb45
      have hbw5 : Below w.heap.size w w5 := HBW4.out.trans (hb45.mono HBW4.out.size)
      have hA : BoxOf (w5.alloc (.cells #[.bool true, .string ⟨v_write.toArray⟩, .string ⟨#[97]⟩, .string ⟨#[]⟩, .string ⟨#[]⟩, .string ⟨#[120, 32, 121]⟩, .int .i64 3, .int .u64 0, .int .i64 0, .int .i64 0, .int .i64 0, .int .i64 0, .int .i64 0] 26)) w5.heap.size 26 cmdA := heap_alloc_new w5 _
      go_wp2_with fail
      go_meet
      exact ⟨w5.heap.size, rfl, rfl, hA, by omega, hz5.below ((Below.refl _ _).alloc (Nat.le_refl _) _), hbw5.alloc hbw5.size _⟩
    · have hw45 := hb45.size
      have hz5 := HZ4.out.below hb45
      have hbw5 : Below w.heap.size w w5 := HBW4.out.trans (hb45.mono HBW4.out.size)
      go_wp2_with fail
      go_meet
      exact ⟨w4.heap.size, rfl, rfl, box_store y5 cmdA, by omega, BoxOf.gb hz5 (gb_store (gb_refl w5 (some w4.heap.size)) cmdA) (by intro e; injection e with e; omega), below_gb1 hbw5 hbw5.size (by omega) (gb_store (gb_refl w5 (some w4.heap.size)) cmdA)⟩
  case rest =>
    obtain ⟨b, rfl, rfl, hxb, hbN, hzN, hbw⟩ := hcut
    have HXB := Lib.hid hxb
    have HZN := Lib.hid hzN
    have HBW := Lib.hid hbw
    obtain ⟨c0, c1, c2, c3, c4, c5, c6, c7, c8, c9, c10, c11, c12⟩ := hxb.cells
    obtain ⟨f0, f1, f2, f3, f4, f5, f6, f7, f8, f9, f10, f11, f12⟩ := hzN.frozens
    obtain ⟨e0, e1, e2, e3, e4, e5, e6, e7, e8, e9, e10, e11, e12⟩ := hzN.cells
    clear hxb hzN hbw
    go_wp2_with fail
    refine bodyPost_ret (v := .tuple #[encCmd cmdA, .int .i64 0]) (by refine ret_cmd (p := 2) (u := 3) rfl _ _ w.heap.size cmdA ?_ ?_; rfl; exact box_store HZN.out cmdA) rfl ?_
    exact ⟨rfl, below_gb1 HBW.out HBW.out.size (Nat.le_refl _) (gb_store (gb_refl _ _) cmdA)⟩
end Go.Proofs.YtnkhiaikdmpimaaGreatDoor
