/- command.taken. -/
import Derived.Test.YtnkhiaikdmpimaaGreatDoorCmdO
import Derived.Laws.ResultCell
import Derived.Laws.Rows
import Derived.Laws.Tables
import Derived.Laws.CopyOwn
namespace Go.Proofs.YtnkhiaikdmpimaaGreatDoor
open Go.RowKit Lx

theorem infoCmd : ((Tryz.prog).info? 26).map (·.size) = some 13 := by kernel_rfl
theorem ret_cmd {fn : Func} {p u : Tmp} (h : fn.results = #[.cell p 26, .tmp u]) (tmps : Array Value) (w : World) (g : Nat) (c : Cmd)
    (hp : tmps.getD p undef = .pointer (some ⟨g, 0, none⟩)) (hg : BoxOf w g 26 c) :
    (results fn tmps).run Tryz.prog w = .ok (.tuple #[encCmd c, tmps.getD u undef]) w := by
  have hp' : tmps[p]?.getD undef = .pointer (some ⟨g, 0, none⟩) := by simpa using hp
  have hl := run_loadVar_row (P := Tryz.prog) w g 26 26 _ _ _ hg Tryz.underlying26 rfl infoCmd
  rw [results_cell_tmp h]
  simp [hp', asAddr, hl, Result.andThen, encCmd_eq]
theorem set13 (a0 a1 a2 a3 a4 a5 a6 a7 a8 a9 a10 a11 a12 b0 b1 b2 b3 b4 b5 b6 b7 b8 b9 b10 b11 b12 : Value) : (((((((((((((#[a0, a1, a2, a3, a4, a5, a6, a7, a8, a9, a10, a11, a12].setIfInBounds 0 b0).setIfInBounds 1 b1).setIfInBounds 2 b2).setIfInBounds 3 b3).setIfInBounds 4 b4).setIfInBounds 5 b5).setIfInBounds 6 b6).setIfInBounds 7 b7).setIfInBounds 8 b8).setIfInBounds 9 b9).setIfInBounds 10 b10).setIfInBounds 11 b11).setIfInBounds 12 b12) = #[b0, b1, b2, b3, b4, b5, b6, b7, b8, b9, b10, b11, b12] := by kernel_rfl
/-- a whole command stored into a block -/
theorem box_store {w : World} {b : Nat} {T : TypeId} {c : Cmd} (h : BoxOf w b T c) (d : Cmd) : BoxOf (((((((((((((w.setCell ⟨b, 0, none⟩ (.bool d.second)).setCell ⟨b, 1, none⟩ (.string ⟨d.verb.toArray⟩)).setCell ⟨b, 2, none⟩ (.string ⟨d.set.toArray⟩)).setCell ⟨b, 3, none⟩ (.string ⟨d.snap.toArray⟩)).setCell ⟨b, 4, none⟩ (.string ⟨d.other.toArray⟩)).setCell ⟨b, 5, none⟩ (.string ⟨d.text.toArray⟩)).setCell ⟨b, 6, none⟩ (.int .i64 d.cell)).setCell ⟨b, 7, none⟩ (.int .u64 d.now)).setCell ⟨b, 8, none⟩ (.int .i64 d.keep.last)).setCell ⟨b, 9, none⟩ (.int .i64 d.keep.hours)).setCell ⟨b, 10, none⟩ (.int .i64 d.keep.days)).setCell ⟨b, 11, none⟩ (.int .i64 d.keep.weeks)).setCell ⟨b, 12, none⟩ (.int .i64 d.keep.months)) b T d := by
  have h13 := (heap_set (heap_set (heap_set (heap_set (heap_set (heap_set (heap_set (heap_set (heap_set (heap_set (heap_set (heap_set (heap_set h 0 (.bool d.second)) 1 (.string ⟨d.verb.toArray⟩)) 2 (.string ⟨d.set.toArray⟩)) 3 (.string ⟨d.snap.toArray⟩)) 4 (.string ⟨d.other.toArray⟩)) 5 (.string ⟨d.text.toArray⟩)) 6 (.int .i64 d.cell)) 7 (.int .u64 d.now)) 8 (.int .i64 d.keep.last)) 9 (.int .i64 d.keep.hours)) 10 (.int .i64 d.keep.days)) 11 (.int .i64 d.keep.weeks)) 12 (.int .i64 d.keep.months))
  rw [set13] at h13
  exact h13
theorem gb_store {a w : World} {b : Nat} (h : a.grownBy w (some b)) (d : Cmd) :
    a.grownBy (((((((((((((w.setCell ⟨b, 0, none⟩ (.bool d.second)).setCell ⟨b, 1, none⟩ (.string ⟨d.verb.toArray⟩)).setCell ⟨b, 2, none⟩ (.string ⟨d.set.toArray⟩)).setCell ⟨b, 3, none⟩ (.string ⟨d.snap.toArray⟩)).setCell ⟨b, 4, none⟩ (.string ⟨d.other.toArray⟩)).setCell ⟨b, 5, none⟩ (.string ⟨d.text.toArray⟩)).setCell ⟨b, 6, none⟩ (.int .i64 d.cell)).setCell ⟨b, 7, none⟩ (.int .u64 d.now)).setCell ⟨b, 8, none⟩ (.int .i64 d.keep.last)).setCell ⟨b, 9, none⟩ (.int .i64 d.keep.hours)).setCell ⟨b, 10, none⟩ (.int .i64 d.keep.days)).setCell ⟨b, 11, none⟩ (.int .i64 d.keep.weeks)).setCell ⟨b, 12, none⟩ (.int .i64 d.keep.months)) (some b) :=
  gb_set (gb_set (gb_set (gb_set (gb_set (gb_set (gb_set (gb_set (gb_set (gb_set (gb_set (gb_set (gb_set h 0 _) 1 _) 2 _) 3 _) 4 _) 5 _) 6 _) 7 _) 8 _) 9 _) 10 _) 11 _) 12 _

theorem BoxOf.frozens {w : World} {b : Nat} {T : TypeId} {c : Cmd} (h : BoxOf w b T c) : w.frozen? ⟨b, 0, none⟩ = false ∧ w.frozen? ⟨b, 1, none⟩ = false ∧ w.frozen? ⟨b, 2, none⟩ = false ∧ w.frozen? ⟨b, 3, none⟩ = false ∧ w.frozen? ⟨b, 4, none⟩ = false ∧ w.frozen? ⟨b, 5, none⟩ = false ∧ w.frozen? ⟨b, 6, none⟩ = false ∧ w.frozen? ⟨b, 7, none⟩ = false ∧ w.frozen? ⟨b, 8, none⟩ = false ∧ w.frozen? ⟨b, 9, none⟩ = false ∧ w.frozen? ⟨b, 10, none⟩ = false ∧ w.frozen? ⟨b, 11, none⟩ = false ∧ w.frozen? ⟨b, 12, none⟩ = false :=
  ⟨h.frozen 0, h.frozen 1, h.frozen 2, h.frozen 3, h.frozen 4, h.frozen 5, h.frozen 6, h.frozen 7, h.frozen 8, h.frozen 9, h.frozen 10, h.frozen 11, h.frozen 12⟩
theorem BoxOf.gb {w w' : World} {b : Nat} {T : TypeId} {c : Cmd} {row : Option Nat} (h : BoxOf w b T c) (hg : w.grownBy w' row) (hne : some b ≠ row) : BoxOf w' b T c :=
  (hg.block b (heap_lt h) hne).trans h
theorem below_gb {N : Nat} {w w1 w2 : World} (h : Below N w w1) (hN : N ≤ w1.heap.size) (hg : w1.grownBy w2 (some N)) : Below N w w2 :=
  h.grown hg hN (fun g e => by cases e; exact Nat.le_refl _)
theorem exec_load_cmd {ev : Operand → Value} {o : Oper} (x : Operand) (ho : o.op = .load 26 x) (g : Nat) (hx : ev x = .pointer (some ⟨g, 0, none⟩)) (W : World) (c : Cmd) (hW : BoxOf W g 26 c) :
    (execOp ev o).run Tryz.prog W = .ok (.value (encCmd c)) W := by
  have hl := run_loadVar_row (P := Tryz.prog) W g 26 26 _ _ _ hW Tryz.underlying26 rfl infoCmd
  unfold execOp
  simp only [ho, hx, Instr.loadAt, Instr.sureAddr, Sem.run_bind, Sem.run_pure, Result.andThen_ok, hl, encCmd_eq]
theorem set_row {w : World} {b : Nat} {T : TypeId} {c : Cmd} (h : BoxOf w b T c) (d : Cmd) : BoxOf (w.setRow b #[.bool d.second, .string ⟨d.verb.toArray⟩, .string ⟨d.set.toArray⟩, .string ⟨d.snap.toArray⟩, .string ⟨d.other.toArray⟩, .string ⟨d.text.toArray⟩, .int .i64 d.cell, .int .u64 d.now, .int .i64 d.keep.last, .int .i64 d.keep.hours, .int .i64 d.keep.days, .int .i64 d.keep.weeks, .int .i64 d.keep.months]) b T d :=
  setRow_heap w b _ _ _ _ h
theorem tk_keep {w w' : World} {d z : Cmd} (hx : BoxOf w' w.heap.size 26 d) (hz : BoxOf w' (w.heap.size + 1) 26 z) : w'.cell? ⟨w.heap.size, 0, none⟩ = some (.bool d.second) ∧ w'.cell? ⟨w.heap.size, 1, none⟩ = some (.string ⟨d.verb.toArray⟩) ∧ w'.cell? ⟨w.heap.size, 2, none⟩ = some (.string ⟨d.set.toArray⟩) ∧ w'.cell? ⟨w.heap.size, 3, none⟩ = some (.string ⟨d.snap.toArray⟩) ∧ w'.cell? ⟨w.heap.size, 4, none⟩ = some (.string ⟨d.other.toArray⟩) ∧ w'.cell? ⟨w.heap.size, 5, none⟩ = some (.string ⟨d.text.toArray⟩) ∧ w'.cell? ⟨w.heap.size, 6, none⟩ = some (.int .i64 d.cell) ∧ w'.cell? ⟨w.heap.size, 7, none⟩ = some (.int .u64 d.now) ∧ w'.cell? ⟨w.heap.size, 8, none⟩ = some (.int .i64 d.keep.last) ∧ w'.cell? ⟨w.heap.size, 9, none⟩ = some (.int .i64 d.keep.hours) ∧ w'.cell? ⟨w.heap.size, 10, none⟩ = some (.int .i64 d.keep.days) ∧ w'.cell? ⟨w.heap.size, 11, none⟩ = some (.int .i64 d.keep.weeks) ∧ w'.cell? ⟨w.heap.size, 12, none⟩ = some (.int .i64 d.keep.months) ∧ w'.frozen? ⟨w.heap.size + 1, 0, none⟩ = false ∧ w'.frozen? ⟨w.heap.size + 1, 1, none⟩ = false ∧ w'.frozen? ⟨w.heap.size + 1, 2, none⟩ = false ∧ w'.frozen? ⟨w.heap.size + 1, 3, none⟩ = false ∧ w'.frozen? ⟨w.heap.size + 1, 4, none⟩ = false ∧ w'.frozen? ⟨w.heap.size + 1, 5, none⟩ = false ∧ w'.frozen? ⟨w.heap.size + 1, 6, none⟩ = false ∧ w'.frozen? ⟨w.heap.size + 1, 7, none⟩ = false ∧ w'.frozen? ⟨w.heap.size + 1, 8, none⟩ = false ∧ w'.frozen? ⟨w.heap.size + 1, 9, none⟩ = false ∧ w'.frozen? ⟨w.heap.size + 1, 10, none⟩ = false ∧ w'.frozen? ⟨w.heap.size + 1, 11, none⟩ = false ∧ w'.frozen? ⟨w.heap.size + 1, 12, none⟩ = false :=
  ⟨box_at hx 0 _ rfl, box_at hx 1 _ rfl, box_at hx 2 _ rfl, box_at hx 3 _ rfl, box_at hx 4 _ rfl, box_at hx 5 _ rfl, box_at hx 6 _ rfl, box_at hx 7 _ rfl, box_at hx 8 _ rfl, box_at hx 9 _ rfl, box_at hx 10 _ rfl, box_at hx 11 _ rfl, box_at hx 12 _ rfl, hz.frozen 0, hz.frozen 1, hz.frozen 2, hz.frozen 3, hz.frozen 4, hz.frozen 5, hz.frozen 6, hz.frozen 7, hz.frozen 8, hz.frozen 9, hz.frozen 10, hz.frozen 11, hz.frozen 12⟩
theorem below_gb1 {N b : Nat} {w w1 w2 : World} (h : Below N w w1) (hN : N ≤ w1.heap.size) (hNb : N ≤ b) (hg : w1.grownBy w2 (some b)) : Below N w w2 :=
  h.grown hg hN (fun g e => by cases e; exact hNb)
/-- words in memory -/
def WAt (w : World) (v : Value) (ws : List W) : Prop := ∃ a cap, v = .slice a ws.length cap ∧ ∀ k (h : k < ws.length), ∃ g o, a = some ⟨g, o, none⟩ ∧ w.cell? ⟨g, o + k * 2, none⟩ = some (.string ⟨ws[k].s.toArray⟩) ∧ w.cell? ⟨g, o + k * 2 + 1, none⟩ = some (.bool ws[k].qd)
theorem WAt.below {w w' : World} {v : Value} {ws : List W} (h : WAt w v ws) (hb : Below w.heap.size w w') : WAt w' v ws := by
  obtain ⟨a, cap, hv, hc⟩ := h
  refine ⟨a, cap, hv, fun k hk => ?_⟩
  obtain ⟨g, o, ha, h1, h2⟩ := hc k hk
  exact ⟨g, o, ha, kept_one h1 hb, kept_one h2 hb⟩

theorem takeAll_step (c : Cmd) (r : List Nat) (ws : List W) (k : Nat) (h1 : k < r.length) (h2 : k < ws.length) :
    takeAll c ((r.zip ws).drop k) = if (takeP c (r[k]'h1) (ws[k]'h2)).2 then takeAll (takeP c (r[k]'h1) (ws[k]'h2)).1 ((r.zip ws).drop (k + 1)) else none := by
  have hz : k < (r.zip ws).length := by rw [List.length_zip]; omega
  rw [List.drop_eq_getElem_cons hz, List.getElem_zip]
  rfl

set_option maxHeartbeats 4000000 in
set_option maxRecDepth 100000 in
theorem taken_any (c : Cmd) (rv : Value) (r : List Nat) (lv : Value) (ws : List W) (w : World) (hr : RowAt w rv r) (hrl : r.length ≤ 1000) (hr8 : ∀ p ∈ r, p ≤ 8) (hw : WAt w lv ws) (hwl : ∀ x ∈ ws, x.s.length ≤ 4000) (hwn : ws.length ≤ 100000)
    (hv : HasErr w) (ht : Tab w) (hpol : ∀ x ∈ ws, PolSpec x.s ∨ 6 ∉ r) :
    Calls Tryz.prog 27 #[encCmd c, rv, lv] w fun e w' => (∃ d, e = .returned (.tuple #[encCmd d, .bool (takenP c r ws).isSome]) ∧ (∀ x, takenP c r ws = some x → d = x)) ∧ Below w.heap.size w w' := by
  rw [encCmd_eq]
  have HROW := Lib.hid hr
  have HWS := Lib.hid hw
  have HV := Lib.hid hv
  have HTB := Lib.hid ht
  obtain ⟨ra, rc, rfl, hrc⟩ := hr
  obtain ⟨la, lc, rfl, hlc⟩ := hw
  have hB2 : Below w.heap.size w ((w.alloc (.cells #[.bool c.second, .string ⟨c.verb.toArray⟩, .string ⟨c.set.toArray⟩, .string ⟨c.snap.toArray⟩, .string ⟨c.other.toArray⟩, .string ⟨c.text.toArray⟩, .int .i64 c.cell, .int .u64 c.now, .int .i64 c.keep.last, .int .i64 c.keep.hours, .int .i64 c.keep.days, .int .i64 c.keep.weeks, .int .i64 c.keep.months] 26)).alloc (.cells #[.bool false, .string ⟨#[]⟩, .string ⟨#[]⟩, .string ⟨#[]⟩, .string ⟨#[]⟩, .string ⟨#[]⟩, .int .i64 0, .int .u64 0, .int .i64 0, .int .i64 0, .int .i64 0, .int .i64 0, .int .i64 0] 26)) :=
    ((Below.refl _ _).alloc (Nat.le_refl _) _).alloc (by rw [World.size_alloc]; omega) _
  have HB2 := Lib.hid hB2
  have HP := Lib.hid hpol
  have H8 := Lib.hid hr8
  have HWL := Lib.hid hwl
  clear hB2 hpol hr8 hwl hv ht hrc hlc
  by_cases hlen : r.length = ws.length
  · have hne : ((r.length : Int) != (ws.length : Int)) = false := by simp [hlen]
    have HTK : Hid (takenP c r ws = match takeAll c (r.zip ws) with | some d => if fitsP d r then some d else none | none => none) := Lib.hid (by unfold takenP; rw [if_pos hlen]; rfl)
    have HLEN := Lib.hid hlen
    clear hlen
    go_enter Tryz.func27, Tryz.ntmps27
    go_wp2_with fail
    go_loopg [18] r.length (fun g vi wr => ∃ k : Nat, ∃ d : Cmd, g = r.length - k ∧ k ≤ r.length ∧ vi = .int .i64 k ∧ takeAll c (r.zip ws) = takeAll d ((r.zip ws).drop k) ∧ BoxOf wr w.heap.size 26 d ∧ BoxOf wr (w.heap.size + 1) 26 Cmd.zero ∧ Below w.heap.size w wr)
    case atStart => exact ⟨0, c, rfl, Nat.zero_le _, rfl, rfl, (Below.heap_alloc _ _ _ (by rw [World.size_alloc]; omega)).trans (heap_alloc_new w _), heap_alloc2_new w _ _, HB2.out⟩
    case round =>
      obtain ⟨k, d, hg, hk, rfl, hta, hbx, hbz, hbr⟩ := hrel
      have HBX := Lib.hid hbx
      have HBZ := Lib.hid hbz
      have HBr := Lib.hid hbr
      have HTA := Lib.hid hta
      have hsz := hbr.size
      have hblt := hbx.lt
      have hzlt := hbz.lt
      by_cases hlt : k < r.length
      · have hlt2 : k < ws.length := by have := HLEN.out; omega
        have hki : (k : Int) < (r.length : Int) := by omega
        have hki2 : (k : Int) < (ws.length : Int) := by omega
        obtain ⟨ra2, rc2, hv2, hrc⟩ := HROW.out.below hbr
        injection hv2 with hv2 _ hv3
        subst hv2
        subst hv3
        obtain ⟨ad, rfl, hcell⟩ := hrc k hlt
        obtain ⟨la2, lc2, hw2, hlc⟩ := HWS.out.below hbr
        injection hw2 with hw2 _ hw3
        subst hw2
        subst hw3
        obtain ⟨lg, lo, rfl, hl1, hl2⟩ := hlc k hlt2
        have hst := takeAll_step d r ws k hlt hlt2
        have hmem : r[k]'hlt ∈ r := List.getElem_mem hlt
        have hmemw : ws[k]'hlt2 ∈ ws := List.getElem_mem hlt2
        have hp8 := H8.out _ hmem
        have htk := take_any w.heap.size d (r[k]'hlt) hp8 (ws[k]'hlt2) (HWL.out _ hmemw) wr hbx (HV.out.below hbr) (HTB.out.below hbr) (fun e => (HP.out _ hmemw).resolve_right (fun h => h (e ▸ hmem)))
        generalize r[k]'hlt = p at *
        generalize ws[k]'hlt2 = x at *
        have HTK2 := Lib.hid htk
        have HST := Lib.hid hst
        obtain ⟨xs, xq⟩ := x
        generalize hok : (takeP d p ⟨xs, xq⟩).2 = ok at *
        have HOK := Lib.hid hok
        clear hbx hbz hbr hta hrc hlc hst hmem hmemw htk hok
        go_wp2_with (go_at_call 42; with_reducible refine HTK2.out.mono ?_)
        first | rintro e w2 rfl hbx2 hgb | rintro e w2 ⟨rfl, hbx2, hgb⟩
        have HBX2 := Lib.hid hbx2
        have HBZ2 := Lib.hid (HBZ.out.gb hgb (by simp))
        have HBr2 := Lib.hid (below_gb HBr.out hsz hgb)
        cases ok with
        | true =>
          have HTA2 : Hid (takeAll c (r.zip ws) = takeAll (takeP d p ⟨xs, xq⟩).1 ((r.zip ws).drop (k + 1))) := Lib.hid (by rw [HTA.out, HST.out]; rfl)
          clear hbx2 hgb
          go_wp2_with fail
          go_roundg (r.length - (k + 1))
          case measure => omega
          case rel => exact ⟨k + 1, _, rfl, hlt, by go_num, HTA2.out, HBX2.out, HBZ2.out, HBr2.out⟩
        | false =>
          have HTN : Hid (takenP c r ws = none) := Lib.hid (by rw [HTK.out, HTA.out, HST.out]; rfl)
          generalize (takeP d p ⟨xs, xq⟩).1 = d2 at *
          obtain ⟨c0, c1, c2, c3, c4, c5, c6, c7, c8, c9, c10, c11, c12⟩ := hbx2.cells
          obtain ⟨f0, f1, f2, f3, f4, f5, f6, f7, f8, f9, f10, f11, f12⟩ := HBZ2.out.frozens
          obtain ⟨e0, e1, e2, e3, e4, e5, e6, e7, e8, e9, e10, e11, e12⟩ := HBZ2.out.cells
          have hlt2' := HBX2.out.lt
          have hzlt2 := HBZ2.out.lt
          clear hbx2 hgb
          go_wp2_with fail
          refine bodyPost_ret (v := .tuple #[encCmd d2, .bool false]) (by refine ret_cmd (p := 6) (u := 7) rfl _ _ (w.heap.size + 1) d2 ?_ ?_; rfl; exact box_store HBZ2.out d2) rfl ?_
          rw [HTN.out]
          exact ⟨⟨d2, rfl, fun x hx => by cases hx⟩, below_gb1 HBr2.out HBr2.out.size (Nat.le_succ _) (gb_store (gb_refl _ _) d2)⟩
      · have hki : ¬ (k : Int) < (r.length : Int) := by omega
        obtain rfl : k = r.length := by omega
        have HTA2 : Hid (takeAll c (r.zip ws) = some d) := Lib.hid (by rw [HTA.out, List.drop_of_length_le (by rw [List.length_zip]; omega)]; rfl)
        have HRW := Lib.hid (HROW.out.below hbr)
        obtain ⟨c0, c1, c2, c3, c4, c5, c6, c7, c8, c9, c10, c11, c12⟩ := hbx.cells
        obtain ⟨f0, f1, f2, f3, f4, f5, f6, f7, f8, f9, f10, f11, f12⟩ := hbz.frozens
        obtain ⟨e0, e1, e2, e3, e4, e5, e6, e7, e8, e9, e10, e11, e12⟩ := hbz.cells
        clear hbx hbz hbr hta
        go_upto_region 9 with fail
        go_cut [7] (fun vo wx => vo = .bool (fitsP d r) ∧ BoxOf wx (w.heap.size + 1) 26 d ∧ Below w.heap.size w wx)
        case first =>
          have HFT : Hid (∀ W, RowAt W (.slice ra r.length rc) r → Calls Tryz.prog 28 #[encCmd d, .slice ra r.length rc] W fun e w' => e = .returned (.bool (fitsP d r)) ∧ Below W.heap.size W w') := Lib.hid (fun W h => fits_any d _ r W h hrl)
          have x0 : BoxOf wr.drew w.heap.size 26 d := HBX.out
          have z0 : BoxOf wr.drew (w.heap.size + 1) 26 Cmd.zero := HBZ.out
          have b0 : Below w.heap.size w wr.drew := bdrew HBr.out 1
          clear c0 c1 c2 c3 c4 c5 c6 c7 c8 c9 c10 c11 c12 f0 f1 f2 f3 f4 f5 f6 f7 f8 f9 f10 f11 f12 e0 e1 e2 e3 e4 e5 e6 e7 e8 e9 e10 e11 e12
          refine wp_region_held_drew (S := fun W => BoxOf W w.heap.size 26 d) (by kernel_rfl) x0 (fun hHeld => ?_)
          refine wpAnyH_take (i := 0) (v := encCmd d) rfl (by kernel_rfl) (by kernel_rfl) (by kernel_rfl) (fun _ _ _ h => h) (Or.inl ⟨by rfl, fun W hW => exec_load_cmd _ rfl _ rfl W d hW⟩) x0 ?_
          (try simp only [Act.put, List.setIfInBounds_toArray, List.set_cons_zero, List.set_cons_succ])
          refine wpAnyH_take (i := 1) (v := encCmd d) rfl (by kernel_rfl) (by kernel_rfl) (by kernel_rfl) (fun _ _ _ h => h) (Or.inl ⟨by rfl, fun W hW => exec_load_cmd _ rfl _ rfl W d hW⟩) x0 ?_
          (try simp only [Act.put, List.setIfInBounds_toArray, List.set_cons_zero, List.set_cons_succ])
          refine wpAnyH_take (i := 2) (v := .slice ra r.length rc) rfl (by kernel_rfl) (by kernel_rfl) (by kernel_rfl) (fun _ _ _ h => h) (Or.inl ⟨by rfl, fun W hW => by go_simp⟩) x0 ?_
          (try simp only [Act.put, List.setIfInBounds_toArray, List.set_cons_zero, List.set_cons_succ])
          refine wpAnyH_ready (rs := [3]) (by kernel_rfl) (by simp) ?_
          refine AllReadyH.cons rfl (fun K hK => ?_) AllReadyH.nil
          clear hHeld
          go_simp
          go_at_call 28
          refine (HFT.out _ (HROW.out.below b0)).mono ?_
          rintro e w2 ⟨rfl, hb2⟩
          have x2 := BoxOf.below x0 hb2
          have z2 := BoxOf.below z0 hb2
          have b2 : Below w.heap.size w w2 := b0.trans (hb2.mono b0.size)
          clear hb2
          refine hK.out _ _ x2 (fun hHeld => ?_)
          (try simp only [Act.put, List.setIfInBounds_toArray, List.set_cons_zero, List.set_cons_succ])
          clear hK K
          refine wpAnyH_ready (rs := [4]) (by kernel_rfl) (by simp) ?_
          refine AllReadyH.cons rfl (fun K hK => ?_) AllReadyH.nil
          rw [if_pos (by rfl)]
          refine wp_store_row 26 _ _ rfl (w.heap.size + 1) #[.bool d.second, .string ⟨d.verb.toArray⟩, .string ⟨d.set.toArray⟩, .string ⟨d.snap.toArray⟩, .string ⟨d.other.toArray⟩, .string ⟨d.text.toArray⟩, .int .i64 d.cell, .int .u64 d.now, .int .i64 d.keep.last, .int .i64 d.keep.hours, .int .i64 d.keep.days, .int .i64 d.keep.weeks, .int .i64 d.keep.months] rfl rfl _ _ z2 infoCmd rfl (by simp [Value.oneCell']) ?_
          refine hK.out _ _ ?_ (fun hHeld => ?_)
          · exact (setRow_other w2 (w.heap.size + 1) w.heap.size _ (by omega)).trans x2
          (try simp only [Act.put, List.setIfInBounds_toArray, List.set_cons_zero, List.set_cons_succ])
          clear hK K
          refine wpAnyH_ready (rs := [5]) (by kernel_rfl) (by simp) ?_
          refine AllReadyH.cons rfl (fun K hK => ?_) AllReadyH.nil
          clear hHeld
          go_simp
          refine hK.out _ _ ((setRow_other w2 (w.heap.size + 1) w.heap.size _ (by omega)).trans x2) (fun hHeld => ?_)
          (try simp only [Act.put, List.setIfInBounds_toArray, List.set_cons_zero, List.set_cons_succ])
          clear hK K
          refine wpAnyH_done (by kernel_rfl) ?_ _
          go_wp2_with fail
          go_meet
          exact ⟨rfl, set_row z2 d, below_setRow b2 (Nat.le_succ _) _⟩
        case rest =>
          obtain ⟨rfl, hbx3, hbr3⟩ := hcut
          have HOUT : Hid ((takenP c r ws).isSome = fitsP d r ∧ ∀ x, takenP c r ws = some x → d = x) := Lib.hid (by
            rw [HTK.out, HTA2.out]
            cases hf : fitsP d r <;> simp [hf])
          go_wp2_with fail
          refine bodyPost_ret (v := .tuple #[encCmd d, .bool (fitsP d r)]) (by refine ret_cmd (p := 6) (u := 7) rfl _ _ (w.heap.size + 1) d ?_ ?_; rfl; exact hbx3) rfl ?_
          exact ⟨⟨d, by rw [HOUT.out.1], HOUT.out.2⟩, hbr3⟩
  · have hne : ((r.length : Int) != (ws.length : Int)) = true := by simp; omega
    have HTK : Hid (takenP c r ws = none) := Lib.hid (by unfold takenP; rw [if_neg hlen])
    clear hlen
    go_enter Tryz.func27, Tryz.ntmps27
    go_wp2_with fail
    refine bodyPost_ret (v := .tuple #[encCmd c, .bool false]) (by refine ret_cmd (p := 6) (u := 7) rfl _ _ (w.heap.size + 1) c ?_ ?_; rfl; exact heap_alloc2_new w _ _) rfl ?_
    rw [HTK.out]
    exact ⟨⟨c, rfl, fun x hx => by cases hx⟩, ((Below.refl _ _).alloc (Nat.le_refl _) _).alloc (by rw [World.size_alloc]; omega) _⟩
end Go.Proofs.YtnkhiaikdmpimaaGreatDoor
