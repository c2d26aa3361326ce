/- command.Parse, of every line. -/
import Derived.Test.YtnkhiaikdmpimaaGreatDoorCmdQ
import Derived.Test.YtnkhiaikdmpimaaGreatDoorPolParse
namespace Go.Proofs.YtnkhiaikdmpimaaGreatDoor
open Go.RowKit Lx

theorem wat_own {w : World} {B : Nat} {e : TypeId} {v : Value} {ws : List W} (h : w.ownsRow B e 2 v ws.length (wcells ws)) : ∃ a cap, v = .slice a ws.length cap ∧ ws.length ≤ cap ∧ WAt w v ws := by
  obtain ⟨a, cap, rfl, hcap, hc⟩ := own_words h
  refine ⟨a, cap, rfl, hcap, a, cap, rfl, fun k hk => ?_⟩
  obtain ⟨g, rfl, h1, h2⟩ := hc k hk
  exact ⟨g, 0, rfl, by rw [Nat.zero_add]; exact h1, by rw [Nat.zero_add]; exact h2⟩
/-- the words behind the first one -/
theorem wat_tail {w : World} {g o c : Nat} {x : W} {xs : List W} (h : WAt w (.slice (some ⟨g, o, none⟩) (xs.length + 1) c) (x :: xs)) (c' : Nat) : WAt w (.slice (some ⟨g, o + 2, none⟩) xs.length c') xs := by
  obtain ⟨a, cap, hv, hc⟩ := h
  injection hv with h1 h2 h3
  subst h1
  refine ⟨_, _, rfl, fun k hk => ?_⟩
  obtain ⟨g', o', hg, c0, c1⟩ := hc (k + 1) (by simp; omega)
  injection hg with hg
  injection hg with hg1 hg2
  subst hg1
  subst hg2
  refine ⟨g, o + 2, rfl, ?_, ?_⟩
  · rw [show o + 2 + k * 2 = o + (k + 1) * 2 by omega]; simpa using c0
  · rw [show o + 2 + k * 2 + 1 = o + (k + 1) * 2 + 1 by omega]; simpa using c1
theorem wat_nil (w : World) (a : Option Addr) (c : Nat) : WAt w (.slice a 0 c) [] := ⟨a, c, rfl, fun _ hk => absurd hk (Nat.not_lt_zero _)⟩
theorem WAt.gb {w w' : World} {v : Value} {ws : List W} {b : Nat} (h : WAt w v ws) (hg : w.grownBy w' (some b)) (hb : ∀ g o n c, v = .slice (some ⟨g, o, none⟩) n c → b ≠ g) : WAt w' v ws := by
  obtain ⟨a, cap, hv, hc⟩ := h
  refine ⟨a, cap, hv, fun k hk => ?_⟩
  obtain ⟨g, o, ha, h1, h2⟩ := hc k hk
  have hne := hb g o _ _ (by rw [hv, ha])
  exact ⟨g, o, ha, kept_grown h1 hg (by intro e; injection e with e; exact hne e), kept_grown h2 hg (by intro e; injection e with e; exact hne e)⟩

/-- the command as it begins: whether it is for the second pool, and its verb -/
def cmdOf (o : Bool) (vs : List UInt8) : Cmd := { Cmd.zero with second := o, verb := vs }
theorem cmdOf_cells {w' : World} {b : Nat} {T : TypeId} {o : Bool} {vs : List UInt8} (h : BoxOf w' b T (cmdOf o vs)) : w'.cell? ⟨b, 0, none⟩ = some (.bool o) ∧ w'.cell? ⟨b, 1, none⟩ = some (.string ⟨vs.toArray⟩) ∧ w'.cell? ⟨b, 2, none⟩ = some (.string ⟨#[]⟩) ∧ w'.cell? ⟨b, 3, none⟩ = some (.string ⟨#[]⟩) ∧ w'.cell? ⟨b, 4, none⟩ = some (.string ⟨#[]⟩) ∧ w'.cell? ⟨b, 5, none⟩ = some (.string ⟨#[]⟩) ∧ w'.cell? ⟨b, 6, none⟩ = some (.int .i64 0) ∧ w'.cell? ⟨b, 7, none⟩ = some (.int .u64 0) ∧ w'.cell? ⟨b, 8, none⟩ = some (.int .i64 0) ∧ w'.cell? ⟨b, 9, none⟩ = some (.int .i64 0) ∧ w'.cell? ⟨b, 10, none⟩ = some (.int .i64 0) ∧ w'.cell? ⟨b, 11, none⟩ = some (.int .i64 0) ∧ w'.cell? ⟨b, 12, none⟩ = some (.int .i64 0) :=
  ⟨box_at h 0 _ rfl, box_at h 1 _ rfl, box_at h 2 _ rfl, box_at h 3 _ rfl, box_at h 4 _ rfl, box_at h 5 _ rfl, box_at h 6 _ rfl, box_at h 7 _ rfl, box_at h 8 _ rfl, box_at h 9 _ rfl, box_at h 10 _ rfl, box_at h 11 _ rfl, box_at h 12 _ rfl⟩

set_option maxHeartbeats 4000000 in
set_option maxRecDepth 100000 in
theorem parse_ws (line : List UInt8) (x0 : W) (xs : List W) (h1000 : ¬ 1000 < line.length) (hsp : splitB line = some (x0 :: xs)) (w : World) (hv : HasErr w) (ht : Tab w) :
    Calls Tryz.prog 13 #[.string ⟨line.toArray⟩] w fun e w' => e = .returned (.tuple #[encCmd (parseWords (x0 :: xs)).1, .int .i64 (parseWords (x0 :: xs)).2]) ∧ Below w.heap.size w w' := by
  have HS := Lib.hid (fun w => split_any line (by omega) w)
  have HLEN : Hid ((∀ x ∈ x0 :: xs, x.s.length ≤ 4000) ∧ (x0 :: xs).length ≤ 4000) := Lib.hid ⟨fun x hx => by have := words_len hsp x hx; omega, by have := words_count hsp; omega⟩
  have HV := Lib.hid hv
  have HT := Lib.hid ht
  have HSP := Lib.hid (⟨h1000, hsp⟩ : (¬ 1000 < line.length) ∧ splitB line = some (x0 :: xs))
  have HPW : Hid (parseWords (x0 :: xs) = match (if isTheP x0 v_other then xs else x0 :: xs) with
    | [] => (Cmd.zero, 3)
    | v :: args => if v.qd then (Cmd.zero, 3) else
      match (rowsP v.s).findSome? (fun r => takenP (cmdOf (isTheP x0 v_other) v.s) r args) with
      | some d => (d, 0)
      | none => (Cmd.zero, 3)) := Lib.hid rfl
  clear hv ht h1000 hsp
  obtain ⟨s0, z0⟩ := x0
  have HI := Lib.hid (fun w => isThe_any ⟨s0, z0⟩ v_other w)
  generalize isTheP ⟨s0, z0⟩ v_other = o at *
  generalize parseWords (⟨s0, z0⟩ :: xs) = PW at *
  go_enter Tryz.func13, Tryz.ntmps13
  go_wp2_with (go_at_call 24; with_reducible refine (HS.out _).mono ?_)
  first | rintro e w1 hwords hb1 | rintro e w1 ⟨hwords, hb1⟩
  unfold Words at hwords
  rw [if_neg HSP.out.1, HSP.out.2] at hwords
  obtain ⟨v, rfl, hown⟩ := hwords
  obtain ⟨a, cap, hvv, hcap, hwat⟩ := wat_own hown
  rw [hvv] at hwat
  obtain ⟨g, rfl, q0, q1⟩ : ∃ g, a = some ⟨g, 0, none⟩ ∧ w1.cell? ⟨g, 0, none⟩ = some (.string ⟨s0.toArray⟩) ∧ w1.cell? ⟨g, 1, none⟩ = some (.bool z0) := by
    obtain ⟨a2, cap2, hv2, _, hc⟩ := own_words hown
    rw [hvv] at hv2
    injection hv2 with h1 h2 h3
    obtain ⟨g, hg, c0, c1⟩ := hc 0 (by simp)
    exact ⟨g, h1.trans hg, by simpa using c0, by simpa using c1⟩
  have hcap : xs.length + 1 ≤ cap := hcap
  subst hvv
  have hz : BoxOf w1 w.heap.size 26 Cmd.zero := by first | exact box_below hb1 | exact box_below (by rw [World.size_alloc]; exact hb1)
  have HB := Lib.hid (((Below.refl w.heap.size w).alloc (Nat.le_refl _) _).trans (hb1.mono (by first | (rw [World.size_alloc]; omega) | omega)))
  have HZ := Lib.hid hz
  have HWS := Lib.hid hwat
  have hglt : g < w1.heap.size := World.block_lt_of_cell? w1 _ q0
  have hNlt : w.heap.size < w1.heap.size := hz.lt
  have hlx : (0 : Int) < (xs.length : Int) + 1 := by omega
  clear hown hb1 hz hwat
  go_wp2_with (go_at_call 25; with_reducible refine (HI.out _).mono ?_)
  first | rintro e w2 rfl hb2 | rintro e w2 ⟨rfl, hb2⟩
  have hB12 := (Below.refl w1.heap.size w1).alloc (Nat.le_refl _) (.cells #[.bool Cmd.zero.second, .string ⟨Cmd.zero.verb.toArray⟩, .string ⟨Cmd.zero.set.toArray⟩, .string ⟨Cmd.zero.snap.toArray⟩, .string ⟨Cmd.zero.other.toArray⟩, .string ⟨Cmd.zero.text.toArray⟩, .int .i64 Cmd.zero.cell, .int .u64 Cmd.zero.now, .int .i64 Cmd.zero.keep.last, .int .i64 Cmd.zero.keep.hours, .int .i64 Cmd.zero.keep.days, .int .i64 Cmd.zero.keep.weeks, .int .i64 Cmd.zero.keep.months] 26)
  have hcz : BoxOf w2 w1.heap.size 26 Cmd.zero := by first | exact box_below hb2 | exact box_below (by rw [World.size_alloc]; exact hb2)
  have hb12 : Below w1.heap.size w1 w2 := hB12.trans (hb2.mono (by first | (rw [World.size_alloc]; omega) | omega))
  have HB2 := Lib.hid hb12
  have HCZ := Lib.hid hcz
  have HZ2 := Lib.hid (HZ.out.below hb12)
  have HWS2 := Lib.hid (HWS.out.below hb12)
  have HBW2 := Lib.hid (HB.out.trans (hb12.mono HB.out.size))
  have f0 := hcz.frozen 0
  have e0 := hcz.cells.1
  have hclt := hcz.lt
  clear hb2 hcz hb12 hB12 q0 q1
  go_upto_if 29 with fail
  go_cut [4] (fun vl wx => ∃ rest, Hid (rest = if o then xs else ⟨s0, z0⟩ :: xs) ∧ Hid (WAt wx vl rest) ∧ Hid (∀ g' o n c, vl = .slice (some ⟨g', o, none⟩) n c → g' = g) ∧ Hid (∃ c a, vl = .slice a rest.length c ∧ rest.length ≤ c) ∧ BoxOf wx w1.heap.size 26 (cmdOf o []) ∧ BoxOf wx w.heap.size 26 Cmd.zero ∧ Below w.heap.size w wx)
  case first =>
    cases o with
    | true =>
      have hgb3 : w2.grownBy (w2.setCell ⟨w1.heap.size, 0, none⟩ (.bool true)).drew (some w1.heap.size) := gb_trans (gb_set (gb_refl w2 _) 0 (.bool true)) (gb_below (bdrew (Below.refl _ _) 1) _)
      have HC3 : Hid (BoxOf (w2.setCell ⟨w1.heap.size, 0, none⟩ (.bool true)).drew w1.heap.size 26 (cmdOf true [])) := Lib.hid (heap_set HCZ.out 0 (.bool true))
      have HZ3 := Lib.hid (HZ2.out.gb hgb3 (by intro e; injection e with e; omega))
      have HB3 := Lib.hid (below_gb1 HBW2.out HBW2.out.size (by omega) hgb3)
      have HT3 : Hid (∀ c', WAt (w2.setCell ⟨w1.heap.size, 0, none⟩ (.bool true)).drew (.slice (some ⟨g, 2, none⟩) xs.length c') xs) := Lib.hid (fun c' => WAt.gb (wat_tail HWS2.out c') hgb3 (fun g' o' n c e => by injection e with e; injection e with e; injection e with e; omega))
      clear hgb3
      by_cases hc1 : cap = 1
      · obtain rfl : xs = [] := List.eq_nil_of_length_eq_zero (by omega)
        subst hc1
        go_wp2_with fail
        go_region_held3 (fun w' => True) (first | trivial) (first | fail)
        go_wp2_with fail
        go_meet
        exact ⟨[], Lib.hid (by simp), Lib.hid (wat_nil _ _ _), Lib.hid (fun g' o' n c e => by injection e with e; injection e with e; injection e with e; exact e.symm), Lib.hid ⟨_, _, rfl, Nat.le_refl _⟩, HC3.out, HZ3.out, HB3.out⟩
      · have hca : (xs.length : Int) + 1 ≤ (cap : Int) := by omega
        have hcb : (1 : Int) ≤ (xs.length : Int) + 1 := by omega
        have hcc : (1 : Int) ≤ (cap : Int) := by omega
        go_wp2_with fail
        go_region_held3 (fun w' => True) (first | trivial) (first | fail)
        go_wp2_with fail
        go_meet
        exact ⟨xs, Lib.hid (by simp), Lib.hid (HT3.out _), Lib.hid (fun g' o' n c e => by injection e with e; injection e with e; injection e with e; exact e.symm), Lib.hid ⟨_, _, rfl, by omega⟩, HC3.out, HZ3.out, HB3.out⟩
    | false =>
      go_wp2_with fail
      go_meet
      exact ⟨⟨s0, z0⟩ :: xs, Lib.hid (by simp), Lib.hid HWS2.out, Lib.hid (fun g' o' n c e => by injection e with e; injection e with e; injection e with e; exact e.symm), Lib.hid ⟨_, _, rfl, hcap⟩, HCZ.out, HZ2.out, HBW2.out⟩
  case rest =>
    obtain ⟨rest, HR, HWR, HGR, HCR, hcb, hzN, hbw⟩ := hcut
    have HCB := Lib.hid hcb
    have HZN := Lib.hid hzN
    have HBW := Lib.hid hbw
    have hzl := hzN.lt
    obtain ⟨f0, f1, f2, f3, f4, f5, f6, f7, f8, f9, f10, f11, f12⟩ := hzN.frozens
    obtain ⟨z0', z1, z2, z3, z4, z5, z6, z7, z8, z9, z10, z11, z12⟩ := hzN.cells
    clear hcb hzN hbw e0 hclt
    obtain ⟨lc, la, hvl, hlc⟩ := HCR.out
    have HST : Hid (∀ wx, BoxOf wx w.heap.size 26 Cmd.zero → Below w.heap.size w wx → True) := Lib.hid (fun _ _ _ => trivial)
    cases rest with
    | nil =>
      subst hvl
      have HP : Hid (PW = (Cmd.zero, 3)) := Lib.hid (by rw [HPW.out, ← HR.out])
      go_wp2_with fail
      refine bodyPost_ret (v := .tuple #[encCmd Cmd.zero, .int .i64 3]) (by refine ret_cmd (p := 2) (u := 3) rfl _ _ w.heap.size Cmd.zero ?_ ?_; rfl; exact box_store HZN.out Cmd.zero) rfl ?_
      rw [HP.out]
      exact ⟨rfl, below_gb1 HBW.out HBW.out.size (Nat.le_refl _) (gb_store (gb_refl _ _) Cmd.zero)⟩
    | cons v args =>
      obtain ⟨vs, vz⟩ := v
      obtain ⟨o2, rfl, l0, l1⟩ : ∃ o2, la = some ⟨g, o2, none⟩ ∧ wc.cell? ⟨g, o2, none⟩ = some (.string ⟨vs.toArray⟩) ∧ wc.cell? ⟨g, o2 + 1, none⟩ = some (.bool vz) := by
        obtain ⟨a2, cap2, hv2, hc⟩ := HWR.out
        obtain ⟨g2, o2, ha, c0, c1⟩ := hc 0 (by simp)
        have hg2 := HGR.out g2 o2 _ _ (by rw [hv2, ha])
        subst hg2
        rw [hvl] at hv2
        injection hv2 with h1 h2 h3
        exact ⟨o2, h1.trans ha, by simpa using c0, by simpa using c1⟩
      subst hvl
      have hlx2 : (0 : Int) < (args.length : Int) + 1 := by omega
      have hlx3 : ((args.length : Int) + 1 == 0) = false := by simp; omega
      cases vz with
      | true =>
        have HP : Hid (PW = (Cmd.zero, 3)) := Lib.hid (by rw [HPW.out, ← HR.out]; rfl)
        go_wp2_with fail
        refine bodyPost_ret (v := .tuple #[encCmd Cmd.zero, .int .i64 3]) (by refine ret_cmd (p := 2) (u := 3) rfl _ _ w.heap.size Cmd.zero ?_ ?_; rfl; exact box_store HZN.out Cmd.zero) rfl ?_
        rw [HP.out]
        exact ⟨rfl, below_gb1 HBW.out HBW.out.size (Nat.le_refl _) (gb_store (gb_refl _ _) Cmd.zero)⟩
      | false =>
        have hx1 := HCB.out.frozen 1
        have hy1 : wc.cell? ⟨w1.heap.size, 1, none⟩ = some (.string ⟨#[]⟩) := HCB.out.cells.2.1
        have hclt := HCB.out.lt
        have hrn := rows_len vs
        have HRW := Lib.hid (fun w => rows_any vs w)
        have HRL := Lib.hid (fun r h => (⟨row_len vs r h, row_le vs r h⟩ : r.length ≤ 4 ∧ ∀ p ∈ r, p ≤ 8))
        have HP : Hid (PW = match (rowsP vs).findSome? (fun r => takenP (cmdOf o vs) r args) with | some d => (d, 0) | none => (Cmd.zero, 3)) := Lib.hid (by rw [HPW.out, ← HR.out]; rfl)
        have HAL : Hid ((∀ x ∈ args, x.s.length ≤ 4000) ∧ args.length ≤ 4000) := Lib.hid (by
          have h := HR.out
          cases o with
          | true =>
            have h : ⟨vs, false⟩ :: args = xs := by simpa using h
            exact ⟨fun x hx => HLEN.out.1 x (by rw [← h]; simp [hx]), by have := HLEN.out.2; rw [← h] at this; simp only [List.length_cons] at this; omega⟩
          | false =>
            have h : ⟨vs, false⟩ :: args = ⟨s0, z0⟩ :: xs := by simpa using h
            exact ⟨fun x hx => HLEN.out.1 x (by rw [← h]; simp [hx]), by have := HLEN.out.2; rw [← h] at this; simp only [List.length_cons] at this; omega⟩)
        generalize rowsP vs = rs at *
        go_wp2_with (go_at_call 26; with_reducible refine (HRW.out _).mono ?_)
        first | rintro e w4 v rfl hrs hb4 | rintro e w4 ⟨v, rfl, hrs, hb4⟩
        have hsz3 : (wc.setCell ⟨w1.heap.size, 1, none⟩ (.string ⟨vs.toArray⟩)).heap.size = wc.heap.size := by simp [World.setCell]
        have hb4 : Below (wc.setCell ⟨w1.heap.size, 1, none⟩ (.string ⟨vs.toArray⟩)).heap.size (wc.setCell ⟨w1.heap.size, 1, none⟩ (.string ⟨vs.toArray⟩)) w4 := by first | exact hb4 | (rw [hsz3]; exact hb4)
        have hgb4 : wc.grownBy w4 (some w1.heap.size) := gb_trans (gb_set (gb_refl wc _) 1 (.string ⟨vs.toArray⟩)) (gb_below hb4 _)
        have HC4 : Hid (BoxOf w4 w1.heap.size 26 (cmdOf o vs)) := Lib.hid (BoxOf.below (show BoxOf (wc.setCell ⟨w1.heap.size, 1, none⟩ (.string ⟨vs.toArray⟩)) w1.heap.size 26 (cmdOf o vs) from heap_set HCB.out 1 _) hb4)
        have HZ4 := Lib.hid (HZN.out.gb hgb4 (by intro e; injection e with e; omega))
        have HW4 := Lib.hid (HWR.out.gb hgb4 (fun g' o' n c e => by have := HGR.out g' o' n c e; omega))
        have HB4 := Lib.hid (below_gb1 HBW.out HBW.out.size (by omega) hgb4)
        have HRS := Lib.hid hrs
        obtain ⟨ra, rcap, rfl, -⟩ := hrs
        clear hb4 hgb4 hsz3 hx1 hy1 hclt l0 l1 f0 f1 f2 f3 f4 f5 f6 f7 f8 f9 f10 f11 f12 z0' z1 z2 z3 z4 z5 z6 z7 z8 z9 z10 z11 z12
        go_wp2_with fail
        go_loopg [52] rs.length (fun gg vi wr => ∃ k : Nat, gg = rs.length - k ∧ k ≤ rs.length ∧ vi = .int .i64 k ∧ Hid (rs.findSome? (fun r => takenP (cmdOf o vs) r args) = (rs.drop k).findSome? (fun r => takenP (cmdOf o vs) r args)) ∧ Hid (RowsAt wr (.slice ra rs.length rcap) rs) ∧ Hid (WAt wr (.slice (some ⟨g, o2, none⟩) (args.length + 1) lc) (⟨vs, false⟩ :: args)) ∧ Hid (BoxOf wr w1.heap.size 26 (cmdOf o vs)) ∧ Hid (BoxOf wr w.heap.size 26 Cmd.zero) ∧ Hid (Below w.heap.size w wr))
        case atStart => exact ⟨0, rfl, Nat.zero_le _, rfl, Lib.hid rfl, HRS, HW4, HC4, HZ4, HB4⟩
        case round =>
          obtain ⟨k, hgg, hk, rfl, HFS, HRR, HWW, HCC, HZZ, HBB⟩ := hrel
          by_cases hlt : k < rs.length
          · have hki : (k : Int) < (rs.length : Int) := by omega
            obtain ⟨ra2, rc2, hv2, hcells⟩ := HRR.out
            injection hv2 with hv2 _ hv3
            subst hv2
            subst hv3
            obtain ⟨ad, rv, rfl, hcell, hrow⟩ := hcells k hlt
            have hdrop : rs.drop k = rs[k] :: rs.drop (k + 1) := List.drop_eq_getElem_cons hlt
            have hrl := HRL.out _ (List.getElem_mem hlt)
            have HFS2 : Hid (rs.findSome? (fun r => takenP (cmdOf o vs) r args) = match takenP (cmdOf o vs) rs[k] args with | some d => some d | none => (rs.drop (k + 1)).findSome? (fun r => takenP (cmdOf o vs) r args)) := Lib.hid (by rw [HFS.out, hdrop, List.findSome?_cons]; cases takenP (cmdOf o vs) rs[k] args <;> rfl)
            generalize rs[k] = r at *
            obtain ⟨ar, cr, rfl, hrc⟩ := hrow
            have hwlt := HBB.out.size
            have hclr := HCC.out.lt
            have HTK : Hid (∀ sv, WAt wr sv args → ∀ W, Below wr.heap.size wr W → Calls Tryz.prog 27 #[.agg #[.bool o, .string ⟨vs.toArray⟩, .string ⟨#[]⟩, .string ⟨#[]⟩, .string ⟨#[]⟩, .string ⟨#[]⟩, .int .i64 0, .int .u64 0, .int .i64 0, .int .i64 0, .int .i64 0, .int .i64 0, .int .i64 0], .slice ar r.length cr, sv] W fun e w' => ∃ d : Cmd, e = .returned (.tuple #[.agg #[.bool d.second, .string ⟨d.verb.toArray⟩, .string ⟨d.set.toArray⟩, .string ⟨d.snap.toArray⟩, .string ⟨d.other.toArray⟩, .string ⟨d.text.toArray⟩, .int .i64 d.cell, .int .u64 d.now, .int .i64 d.keep.last, .int .i64 d.keep.hours, .int .i64 d.keep.days, .int .i64 d.keep.weeks, .int .i64 d.keep.months], .bool (takenP (cmdOf o vs) r args).isSome]) ∧ (∀ x, takenP (cmdOf o vs) r args = some x → d = x) ∧ Below W.heap.size W w') := Lib.hid (fun sv hsv W hW => (taken_any (cmdOf o vs) (.slice ar r.length cr) r sv args W (RowAt.below ⟨ar, cr, rfl, hrc⟩ hW) (by have := hrl.1; omega) hrl.2 (hsv.below hW) HAL.out.1 (by have := HAL.out.2; omega) (HV.out.below (HBB.out.trans (hW.mono hwlt))) (HT.out.below (HBB.out.trans (hW.mono hwlt))) (fun x hx => .inl (parse_pol x.s (HAL.out.1 x hx)))).mono (by
              rintro e w' ⟨⟨d, rfl, hd⟩, hb⟩
              exact ⟨d, by rw [encCmd_eq], hd, hb⟩))
            generalize takenP (cmdOf o vs) r args = TK at *
            clear hcells hdrop hrc
            go_upto_region 15 with fail
            go_cut [9, 10] (fun vp vo wx => ∃ (b : Nat) (d : Cmd), vp = .pointer (some ⟨b, 0, none⟩) ∧ vo = .bool TK.isSome ∧ (∀ x, TK = some x → d = x) ∧ BoxOf wx b 26 d ∧ b ≠ w.heap.size ∧ Hid (Below wr.heap.size wr wx))
            case first =>
              by_cases hc1 : lc = 1
              · obtain rfl : args = [] := List.eq_nil_of_length_eq_zero (by simp only [List.length_cons] at hlc; omega)
                subst hc1
                have hca : (1 : Int) ≤ 1 := by omega
                have HD4 : Below wr.heap.size wr wr.drew := bdrew (Below.refl wr.heap.size wr) 1
                have HD4A : ∀ o, Below wr.heap.size wr (wr.alloc o).drew := fun o => bdrew ((Below.refl wr.heap.size wr).alloc (Nat.le_refl _) o) 1
                have XS : ∀ (w5 : World) (d : Cmd), BoxOf w5 w1.heap.size 26 (cmdOf o vs) → BoxOf (((((((((((((w5.setCell ⟨wr.heap.size, 0, none⟩ (.bool d.second)).setCell ⟨wr.heap.size, 1, none⟩ (.string ⟨d.verb.toArray⟩)).setCell ⟨wr.heap.size, 2, none⟩ (.string ⟨d.set.toArray⟩)).setCell ⟨wr.heap.size, 3, none⟩ (.string ⟨d.snap.toArray⟩)).setCell ⟨wr.heap.size, 4, none⟩ (.string ⟨d.other.toArray⟩)).setCell ⟨wr.heap.size, 5, none⟩ (.string ⟨d.text.toArray⟩)).setCell ⟨wr.heap.size, 6, none⟩ (.int .i64 d.cell)).setCell ⟨wr.heap.size, 7, none⟩ (.int .u64 d.now)).setCell ⟨wr.heap.size, 8, none⟩ (.int .i64 d.keep.last)).setCell ⟨wr.heap.size, 9, none⟩ (.int .i64 d.keep.hours)).setCell ⟨wr.heap.size, 10, none⟩ (.int .i64 d.keep.days)).setCell ⟨wr.heap.size, 11, none⟩ (.int .i64 d.keep.weeks)).setCell ⟨wr.heap.size, 12, none⟩ (.int .i64 d.keep.months)) w1.heap.size 26 (cmdOf o vs) := fun w5 d h => BoxOf.gb h (gb_store (gb_refl w5 (some wr.heap.size)) d) (by intro e; injection e with e; omega)
                have Y4A : BoxOf (wr.alloc (.cells #[.bool false, .string ⟨#[]⟩, .string ⟨#[]⟩, .string ⟨#[]⟩, .string ⟨#[]⟩, .string ⟨#[]⟩, .int .i64 0, .int .u64 0, .int .i64 0, .int .i64 0, .int .i64 0, .int .i64 0, .int .i64 0] 26)).drew wr.heap.size 26 Cmd.zero := heap_alloc_new wr _
                have X4A : ∀ ob, BoxOf (wr.alloc ob).drew w1.heap.size 26 (cmdOf o vs) := fun ob => HCC.out.below (bdrew ((Below.refl _ _).alloc (Nat.le_refl _) ob) 1)
                have x4 : BoxOf wr.drew w1.heap.size 26 (cmdOf o vs) := HCC.out
                go_region_held3 (fun w' => w'.cell? ⟨w1.heap.size, 0, none⟩ = some (.bool o) ∧ w'.cell? ⟨w1.heap.size, 1, none⟩ = some (.string ⟨vs.toArray⟩) ∧ w'.cell? ⟨w1.heap.size, 2, none⟩ = some (.string ⟨#[]⟩) ∧ w'.cell? ⟨w1.heap.size, 3, none⟩ = some (.string ⟨#[]⟩) ∧ w'.cell? ⟨w1.heap.size, 4, none⟩ = some (.string ⟨#[]⟩) ∧ w'.cell? ⟨w1.heap.size, 5, none⟩ = some (.string ⟨#[]⟩) ∧ w'.cell? ⟨w1.heap.size, 6, none⟩ = some (.int .i64 0) ∧ w'.cell? ⟨w1.heap.size, 7, none⟩ = some (.int .u64 0) ∧ w'.cell? ⟨w1.heap.size, 8, none⟩ = some (.int .i64 0) ∧ w'.cell? ⟨w1.heap.size, 9, none⟩ = some (.int .i64 0) ∧ w'.cell? ⟨w1.heap.size, 10, none⟩ = some (.int .i64 0) ∧ w'.cell? ⟨w1.heap.size, 11, none⟩ = some (.int .i64 0) ∧ w'.cell? ⟨w1.heap.size, 12, none⟩ = some (.int .i64 0))
                  (first | with_reducible exact cmdOf_cells x4 | with_reducible exact cmdOf_cells (X4A _) | with_reducible exact cmdOf_cells x5 | with_reducible exact cmdOf_cells (X5A _) | with_reducible exact cmdOf_cells (XS _ _ x5))
                  (first | (go_at_call 27; with_reducible refine (HTK.out _ (wat_nil _ _ _) _ ?hw).mono ?_; (case hw => first | exact HD4 | exact HD4A _); rintro e w5 ⟨d, rfl, hd, hb5⟩; have hb45 : Below wr.heap.size wr w5 := (by first | exact HD4.trans (hb5.mono HD4.size) | exact (HD4A _).trans (hb5.mono (HD4A _).size)); have x5 := HCC.out.below hb45; have X5A : ∀ ob, BoxOf (w5.alloc ob) w1.heap.size 26 (cmdOf o vs) := (fun ob => x5.below ((Below.refl _ _).alloc (Nat.le_refl _) ob)); (try have y5 := BoxOf.below Y4A hb5); (try have hy5 := y5.frozens); (try have hy5l := y5.lt); (try have hy5c := y5.cells); (try obtain ⟨e0, e1, e2, e3, e4, e5, e6, e7, e8, e9, e10, e11, e12⟩ := hy5c); (try obtain ⟨f0, f1, f2, f3, f4, f5, f6, f7, f8, f9, f10, f11, f12⟩ := hy5)))
                · have hw45 := hb45.size
                  have hA : BoxOf (w5.alloc (.cells #[.bool d.second, .string ⟨d.verb.toArray⟩, .string ⟨d.set.toArray⟩, .string ⟨d.snap.toArray⟩, .string ⟨d.other.toArray⟩, .string ⟨d.text.toArray⟩, .int .i64 d.cell, .int .u64 d.now, .int .i64 d.keep.last, .int .i64 d.keep.hours, .int .i64 d.keep.days, .int .i64 d.keep.weeks, .int .i64 d.keep.months] 26)) w5.heap.size 26 d := heap_alloc_new w5 _
                  go_wp2_with fail
                  go_meet
                  exact ⟨w5.heap.size, d, rfl, rfl, hd, hA, by omega, Lib.hid (hb45.alloc hb45.size _)⟩
                · have hw45 := hb45.size
                  go_wp2_with fail
                  go_meet
                  exact ⟨wr.heap.size, d, rfl, rfl, hd, box_store y5 d, by omega, Lib.hid (below_gb1 hb45 hb45.size (Nat.le_refl _) (gb_store (gb_refl w5 (some wr.heap.size)) d))⟩
              · have hlc2 : args.length + 1 ≤ lc := hlc
                have hca : (args.length : Int) + 1 ≤ (lc : Int) := by omega
                have hcb : (1 : Int) ≤ (args.length : Int) + 1 := by omega
                have hcc : (1 : Int) ≤ (lc : Int) := by omega
                have HT2 := wat_tail HWW.out
                have HD4 : Below wr.heap.size wr wr.drew := bdrew (Below.refl wr.heap.size wr) 1
                have HD4A : ∀ o, Below wr.heap.size wr (wr.alloc o).drew := fun o => bdrew ((Below.refl wr.heap.size wr).alloc (Nat.le_refl _) o) 1
                have XS : ∀ (w5 : World) (d : Cmd), BoxOf w5 w1.heap.size 26 (cmdOf o vs) → BoxOf (((((((((((((w5.setCell ⟨wr.heap.size, 0, none⟩ (.bool d.second)).setCell ⟨wr.heap.size, 1, none⟩ (.string ⟨d.verb.toArray⟩)).setCell ⟨wr.heap.size, 2, none⟩ (.string ⟨d.set.toArray⟩)).setCell ⟨wr.heap.size, 3, none⟩ (.string ⟨d.snap.toArray⟩)).setCell ⟨wr.heap.size, 4, none⟩ (.string ⟨d.other.toArray⟩)).setCell ⟨wr.heap.size, 5, none⟩ (.string ⟨d.text.toArray⟩)).setCell ⟨wr.heap.size, 6, none⟩ (.int .i64 d.cell)).setCell ⟨wr.heap.size, 7, none⟩ (.int .u64 d.now)).setCell ⟨wr.heap.size, 8, none⟩ (.int .i64 d.keep.last)).setCell ⟨wr.heap.size, 9, none⟩ (.int .i64 d.keep.hours)).setCell ⟨wr.heap.size, 10, none⟩ (.int .i64 d.keep.days)).setCell ⟨wr.heap.size, 11, none⟩ (.int .i64 d.keep.weeks)).setCell ⟨wr.heap.size, 12, none⟩ (.int .i64 d.keep.months)) w1.heap.size 26 (cmdOf o vs) := fun w5 d h => BoxOf.gb h (gb_store (gb_refl w5 (some wr.heap.size)) d) (by intro e; injection e with e; omega)
                have Y4A : BoxOf (wr.alloc (.cells #[.bool false, .string ⟨#[]⟩, .string ⟨#[]⟩, .string ⟨#[]⟩, .string ⟨#[]⟩, .string ⟨#[]⟩, .int .i64 0, .int .u64 0, .int .i64 0, .int .i64 0, .int .i64 0, .int .i64 0, .int .i64 0] 26)).drew wr.heap.size 26 Cmd.zero := heap_alloc_new wr _
                have X4A : ∀ ob, BoxOf (wr.alloc ob).drew w1.heap.size 26 (cmdOf o vs) := fun ob => HCC.out.below (bdrew ((Below.refl _ _).alloc (Nat.le_refl _) ob) 1)
                have x4 : BoxOf wr.drew w1.heap.size 26 (cmdOf o vs) := HCC.out
                go_region_held3 (fun w' => w'.cell? ⟨w1.heap.size, 0, none⟩ = some (.bool o) ∧ w'.cell? ⟨w1.heap.size, 1, none⟩ = some (.string ⟨vs.toArray⟩) ∧ w'.cell? ⟨w1.heap.size, 2, none⟩ = some (.string ⟨#[]⟩) ∧ w'.cell? ⟨w1.heap.size, 3, none⟩ = some (.string ⟨#[]⟩) ∧ w'.cell? ⟨w1.heap.size, 4, none⟩ = some (.string ⟨#[]⟩) ∧ w'.cell? ⟨w1.heap.size, 5, none⟩ = some (.string ⟨#[]⟩) ∧ w'.cell? ⟨w1.heap.size, 6, none⟩ = some (.int .i64 0) ∧ w'.cell? ⟨w1.heap.size, 7, none⟩ = some (.int .u64 0) ∧ w'.cell? ⟨w1.heap.size, 8, none⟩ = some (.int .i64 0) ∧ w'.cell? ⟨w1.heap.size, 9, none⟩ = some (.int .i64 0) ∧ w'.cell? ⟨w1.heap.size, 10, none⟩ = some (.int .i64 0) ∧ w'.cell? ⟨w1.heap.size, 11, none⟩ = some (.int .i64 0) ∧ w'.cell? ⟨w1.heap.size, 12, none⟩ = some (.int .i64 0))
                  (first | with_reducible exact cmdOf_cells x4 | with_reducible exact cmdOf_cells (X4A _) | with_reducible exact cmdOf_cells x5 | with_reducible exact cmdOf_cells (X5A _) | with_reducible exact cmdOf_cells (XS _ _ x5))
                  (first | (go_at_call 27; with_reducible refine (HTK.out _ (HT2 _) _ ?hw).mono ?_; (case hw => first | exact HD4 | exact HD4A _); rintro e w5 ⟨d, rfl, hd, hb5⟩; have hb45 : Below wr.heap.size wr w5 := (by first | exact HD4.trans (hb5.mono HD4.size) | exact (HD4A _).trans (hb5.mono (HD4A _).size)); have x5 := HCC.out.below hb45; have X5A : ∀ ob, BoxOf (w5.alloc ob) w1.heap.size 26 (cmdOf o vs) := (fun ob => x5.below ((Below.refl _ _).alloc (Nat.le_refl _) ob)); (try have y5 := BoxOf.below Y4A hb5); (try have hy5 := y5.frozens); (try have hy5l := y5.lt); (try have hy5c := y5.cells); (try obtain ⟨e0, e1, e2, e3, e4, e5, e6, e7, e8, e9, e10, e11, e12⟩ := hy5c); (try obtain ⟨f0, f1, f2, f3, f4, f5, f6, f7, f8, f9, f10, f11, f12⟩ := hy5)))
                · have hw45 := hb45.size
                  have hA : BoxOf (w5.alloc (.cells #[.bool d.second, .string ⟨d.verb.toArray⟩, .string ⟨d.set.toArray⟩, .string ⟨d.snap.toArray⟩, .string ⟨d.other.toArray⟩, .string ⟨d.text.toArray⟩, .int .i64 d.cell, .int .u64 d.now, .int .i64 d.keep.last, .int .i64 d.keep.hours, .int .i64 d.keep.days, .int .i64 d.keep.weeks, .int .i64 d.keep.months] 26)) w5.heap.size 26 d := heap_alloc_new w5 _
                  go_wp2_with fail
                  go_meet
                  exact ⟨w5.heap.size, d, rfl, rfl, hd, hA, by omega, Lib.hid (hb45.alloc hb45.size _)⟩
                · have hw45 := hb45.size
                  go_wp2_with fail
                  go_meet
                  exact ⟨wr.heap.size, d, rfl, rfl, hd, box_store y5 d, by omega, Lib.hid (below_gb1 hb45 hb45.size (Nat.le_refl _) (gb_store (gb_refl w5 (some wr.heap.size)) d))⟩
            case rest =>
              obtain ⟨b, d, rfl, rfl, hd, hxb, hbN, HBx⟩ := hcut
              have HXB := Lib.hid hxb
              have HBX := Lib.hid (HBB.out.trans (HBx.out.mono hwlt))
              have HZX := Lib.hid (HZZ.out.below HBx.out)
              cases TK with
              | some x =>
                obtain rfl := hd x rfl
                have HPS : Hid (PW = (d, 0)) := Lib.hid (by rw [HP.out, HFS2.out])
                obtain ⟨c0, c1, c2, c3, c4, c5, c6, c7, c8, c9, c10, c11, c12⟩ := hxb.cells
                have hzl := HZX.out.lt
                obtain ⟨f0, f1, f2, f3, f4, f5, f6, f7, f8, f9, f10, f11, f12⟩ := HZX.out.frozens
                obtain ⟨z0', z1, z2, z3, z4, z5, z6, z7, z8, z9, z10, z11, z12⟩ := HZX.out.cells
                clear hxb hcell HTK
                go_wp2_with fail
                refine bodyPost_ret (v := .tuple #[encCmd d, .int .i64 0]) (by refine ret_cmd (p := 2) (u := 3) rfl _ _ w.heap.size d ?_ ?_; rfl; exact box_store HZX.out d) rfl ?_
                rw [HPS.out]
                exact ⟨rfl, below_gb1 HBX.out HBX.out.size (Nat.le_refl _) (gb_store (gb_refl _ _) d)⟩
              | none =>
                have HFS3 := Lib.hid (HFS2.out)
                clear hxb hcell HTK hd
                go_wp2_with fail
                go_roundg (rs.length - (k + 1))
                case measure => omega
                case rel => exact ⟨k + 1, rfl, hlt, by go_num, HFS3, Lib.hid (HRR.out.below HBx.out), Lib.hid (HWW.out.below HBx.out), Lib.hid (HCC.out.below HBx.out), HZX, HBX⟩
          · have hki : ¬ (k : Int) < (rs.length : Int) := by omega
            have HPN : Hid (PW = (Cmd.zero, 3)) := Lib.hid (by rw [HP.out, HFS.out, List.drop_of_length_le (by omega)]; rfl)
            have hzl := HZZ.out.lt
            obtain ⟨f0, f1, f2, f3, f4, f5, f6, f7, f8, f9, f10, f11, f12⟩ := HZZ.out.frozens
            obtain ⟨z0', z1, z2, z3, z4, z5, z6, z7, z8, z9, z10, z11, z12⟩ := HZZ.out.cells
            go_wp2_with fail
            refine bodyPost_ret (v := .tuple #[encCmd Cmd.zero, .int .i64 3]) (by refine ret_cmd (p := 2) (u := 3) rfl _ _ w.heap.size Cmd.zero ?_ ?_; rfl; exact box_store HZZ.out Cmd.zero) rfl ?_
            rw [HPN.out]
            exact ⟨rfl, below_gb1 HBB.out HBB.out.size (Nat.le_refl _) (gb_store (gb_refl _ _) Cmd.zero)⟩

set_option maxHeartbeats 4000000 in
set_option maxRecDepth 100000 in
/-- lines that hold no words: too long, not closed, or empty -/
theorem parse_bad (line : List UInt8) (n : Int) (h : 1000 < line.length ∧ n = 4 ∨ ¬ 1000 < line.length ∧ (splitB line = none ∧ n = 3 ∨ splitB line = some [] ∧ n = 5)) (hl : line.length ≤ 9223372036854775807) (w : World) :
    Calls Tryz.prog 13 #[.string ⟨line.toArray⟩] w fun e w' => e = .returned (.tuple #[encCmd Cmd.zero, .int .i64 n]) ∧ Below w.heap.size w w' := by
  have HS : Hid (∀ w, Calls Tryz.prog 24 #[.string ⟨line.toArray⟩] w fun e w' => (∃ a c er, e = .returned (.tuple #[.slice a 0 c, .int .i64 er]) ∧ (er = n ∧ er ≠ 0 ∨ er = 0 ∧ n = 5)) ∧ Below w.heap.size w w') := Lib.hid (fun w => (split_any line hl w).mono fun e w' ⟨hw, hb⟩ => by
    refine ⟨?_, hb⟩
    unfold Words at hw
    rcases h with ⟨h1, rfl⟩ | ⟨h1, ⟨h2, rfl⟩ | ⟨h2, rfl⟩⟩
    · rw [if_pos h1] at hw
      exact ⟨none, 0, 4, hw, .inl ⟨rfl, by decide⟩⟩
    · rw [if_neg h1, h2] at hw
      exact ⟨none, 0, 3, hw, .inl ⟨rfl, by decide⟩⟩
    · rw [if_neg h1, h2] at hw
      obtain ⟨v, rfl, hown⟩ := hw
      obtain ⟨a, cap, rfl, hcap, -⟩ := own_words hown
      exact ⟨a, cap, 0, rfl, .inr ⟨rfl, rfl⟩⟩)
  clear h hl
  go_enter Tryz.func13, Tryz.ntmps13
  go_wp2_with (go_at_call 24; with_reducible refine (HS.out _).mono ?_)
  first | rintro e w1 ⟨a, c, er, rfl, hor⟩ hb1 | rintro e w1 ⟨⟨a, c, er, rfl, hor⟩, hb1⟩
  have hz : BoxOf w1 w.heap.size 26 Cmd.zero := by first | exact box_below hb1 | exact box_below (by rw [World.size_alloc]; exact hb1)
  have HB := Lib.hid (((Below.refl w.heap.size w).alloc (Nat.le_refl _) _).trans (hb1.mono (by first | (rw [World.size_alloc]; omega) | omega)))
  have HZ := Lib.hid hz
  obtain ⟨f0, f1, f2, f3, f4, f5, f6, f7, f8, f9, f10, f11, f12⟩ := hz.frozens
  obtain ⟨e0, e1, e2, e3, e4, e5, e6, e7, e8, e9, e10, e11, e12⟩ := hz.cells
  clear hb1 hz
  rcases hor with ⟨rfl, h0⟩ | ⟨rfl, rfl⟩
  · have hb : (er == 0) = false := by simpa using h0
    go_wp2_with fail
    refine bodyPost_ret (v := .tuple #[encCmd Cmd.zero, .int .i64 er]) (by refine ret_cmd (p := 2) (u := 3) rfl _ _ w.heap.size Cmd.zero ?_ ?_; rfl; exact box_store HZ.out Cmd.zero) rfl ?_
    exact ⟨rfl, below_gb1 HB.out HB.out.size (Nat.le_refl _) (gb_store (gb_refl _ _) Cmd.zero)⟩
  · go_wp2_with fail
    refine bodyPost_ret (v := .tuple #[encCmd Cmd.zero, .int .i64 5]) (by refine ret_cmd (p := 2) (u := 3) rfl _ _ w.heap.size Cmd.zero ?_ ?_; rfl; exact box_store HZ.out Cmd.zero) rfl ?_
    exact ⟨rfl, below_gb1 HB.out HB.out.size (Nat.le_refl _) (gb_store (gb_refl _ _) Cmd.zero)⟩

theorem parse_any (line : List UInt8) (hl : line.length ≤ 9223372036854775807) (w : World) (hv : HasErr w) (ht : Tab w) :
    Calls Tryz.prog 13 #[.string ⟨line.toArray⟩] w fun e w' => e = .returned (.tuple #[encCmd (parseP line).1, .int .i64 (parseP line).2]) ∧ Below w.heap.size w w' := by
  by_cases h : 1000 < line.length
  · have e : parseP line = (Cmd.zero, 4) := by unfold parseP; rw [if_pos h]
    rw [e]
    exact parse_bad line 4 (.inl ⟨h, rfl⟩) hl w
  · have e : parseP line = match splitB line with | none => (Cmd.zero, 3) | some ws => parseWords ws := by unfold parseP; rw [if_neg h]; cases splitB line <;> rfl
    rw [e]
    cases hs : splitB line with
    | none => exact parse_bad line 3 (.inr ⟨h, .inl ⟨hs, rfl⟩⟩) hl w
    | some ws =>
      cases ws with
      | nil => exact parse_bad line 5 (.inr ⟨h, .inr ⟨hs, rfl⟩⟩) hl w
      | cons x0 xs => exact parse_ws line x0 xs h hs w hv ht
end Go.Proofs.YtnkhiaikdmpimaaGreatDoor
