/- isThe, number, take. -/
import Derived.Test.YtnkhiaikdmpimaaGreatDoorCmdJ
import Derived.Test.YtnkhiaikdmpimaaGreatDoorCmdK
import Derived.Test.YtnkhiaikdmpimaaGreatDoorParPlain
import Derived.Test.YtnkhiaikdmpimaaGreatDoorLexJ
namespace Go.Proofs.YtnkhiaikdmpimaaGreatDoor
open Go.RowKit Lx

theorem gb_below {w w' : World} (h : Below w.heap.size w w') (row : Option Nat) : w.grownBy w' row := ⟨h.os, h.tape, h.output, h.size, fun k hk _ => h.block k hk⟩
theorem gb_trans {a b c : World} {row : Option Nat} (h : a.grownBy b row) (k : b.grownBy c row) : a.grownBy c row :=
  ⟨k.os.trans h.os, k.tape.trans h.tape, k.output.trans h.output, Nat.le_trans h.size k.size, fun i hi hr => (k.block i (Nat.lt_of_lt_of_le hi h.size) hr).trans (h.block i hi hr)⟩
theorem gb_set {a w : World} {b : Nat} (h : a.grownBy w (some b)) (j : Nat) (v : Value) : a.grownBy (w.setCell ⟨b, j, none⟩ v) (some b) :=
  ⟨h.os, h.tape, h.output, by have := h.size; simpa [World.setCell] using this, fun i hi hr => (Below.heap_setCell w ⟨b, j, none⟩ v i (fun e => hr (by rw [e]))).trans (h.block i hi hr)⟩
theorem gb_refl (w : World) (row : Option Nat) : w.grownBy w row := ⟨rfl, rfl, rfl, Nat.le_refl _, fun _ _ _ => rfl⟩
theorem gb_alloc {a w : World} {row : Option Nat} (h : a.grownBy w row) (o : Obj) : a.grownBy (w.alloc o) row :=
  gb_trans h (World.grownBy_alloc w o row)
theorem BoxOf.lt {w : World} {b : Nat} {T : TypeId} {c : Cmd} (h : BoxOf w b T c) : b < w.heap.size := heap_lt h
theorem BoxOf.frozen {w : World} {b : Nat} {T : TypeId} {c : Cmd} (h : BoxOf w b T c) (j : Nat) : w.frozen? ⟨b, j, none⟩ = false := Lib.frozen_of_heap h j

theorem isThe_any (x : W) (s : List UInt8) (w : World) :
    Calls Tryz.prog 25 #[.agg #[.string ⟨x.s.toArray⟩, .bool x.qd], .string ⟨s.toArray⟩] w fun e w' => e = .returned (.bool (isTheP x s)) ∧ Below w.heap.size w w' := by
  obtain ⟨xs, qd⟩ := x
  have hp : isTheP ⟨xs, qd⟩ s = (xs == s && !qd) := rfl
  rw [hp]
  clear hp
  by_cases h : xs = s
  · subst h
    have HE : Hid ((xs == xs && !qd) = !qd) := Lib.hid (by simp)
    go_enter Tryz.func25, Tryz.ntmps25
    go_wp2_with fail
    go_ret
    rw [HE.out]
    exact ⟨rfl, (Below.refl _ _).alloc (Nat.le_refl _) _⟩
  · have hb : (xs == s) = false := by simpa using h
    have HE : Hid ((xs == s && !qd) = false) := Lib.hid (by rw [hb]; rfl)
    clear h
    go_enter Tryz.func25, Tryz.ntmps25
    go_wp2_with fail
    go_ret
    rw [HE.out]
    exact ⟨rfl, (Below.refl _ _).alloc (Nat.le_refl _) _⟩

set_option maxHeartbeats 1000000 in
set_option maxRecDepth 100000 in
theorem cnumber_any (x : W) (hl : x.s.length ≤ 4000) (w : World) (hv : HasErr w) :
    Calls Tryz.prog 61 #[.agg #[.string ⟨x.s.toArray⟩, .bool x.qd]] w fun e w' => e = .returned (.tuple #[.int .u64 (number x.s).1, .bool (numOk x)]) ∧ Below w.heap.size w w' := by
  obtain ⟨xs, qd⟩ := x
  have hn := number_any xs (by simp only at hl; omega) (w.alloc (.cells #[.string ⟨xs.toArray⟩, .bool qd] 62)) (hv.below ((Below.refl _ _).alloc (Nat.le_refl _) _))
  have HO : Hid (numOk ⟨xs, qd⟩ = ((number xs).2 == 0 && !qd)) := Lib.hid rfl
  simp only
  generalize numOk ⟨xs, qd⟩ = ok at *
  generalize (number xs).1 = m at *
  generalize (number xs).2 = er at *
  have HN := Lib.hid hn
  clear hn hl
  go_enter Tryz.func61, Tryz.ntmps61
  go_wp2_with (go_at_call 78; with_reducible refine HN.out.mono ?_)
  first | rintro e w1 rfl hb1 | rintro e w1 ⟨rfl, hb1⟩
  have c1 : w1.cell? ⟨w.heap.size, 1, none⟩ = some (.bool qd) := kept_one (new_cell _ _ _ _ _ rfl _ rfl) hb1
  have HB := Lib.hid (((Below.refl w.heap.size w).alloc (Nat.le_refl _) _).trans (hb1.mono (by rw [World.size_alloc]; omega)))
  clear hb1
  by_cases h0 : er = 0
  · subst h0
    have HE : Hid (ok = !qd) := Lib.hid (by rw [HO.out]; rfl)
    go_wp2_with fail
    go_quiet (fail)
    go_wp2_with fail
    go_ret2
    rw [HE.out]
    exact ⟨rfl, bdrew HB.out _⟩
  · have hg : (er == 0) = false := by simpa using h0
    have HE : Hid (ok = false) := Lib.hid (by rw [HO.out, hg]; rfl)
    clear h0
    go_wp2_with fail
    go_quiet (fail)
    go_wp2_with fail
    go_ret2
    rw [HE.out]
    exact ⟨rfl, bdrew HB.out _⟩
def PolSpec (s : List UInt8) : Prop := ∀ w, HasErr w → Tab w → Calls Tryz.prog 62 #[.string ⟨s.toArray⟩] w fun e w' =>
  (∃ n : Int, e = .returned (.tuple #[encPol ((polParse s).getD Pol.zero), .int .i64 n]) ∧ (n = 0 ↔ (polParse s).isSome = true)) ∧ Below w.heap.size w w'

set_option maxHeartbeats 2000000 in
set_option maxRecDepth 100000 in
theorem take_any (b : Nat) (c : Cmd) (p : Nat) (hp : p ≤ 8) (x : W) (hl : x.s.length ≤ 4000) (w : World) (hx : BoxOf w b 26 c) (hv : HasErr w) (ht : Tab w) (hpol : p = 6 → PolSpec x.s) :
    Calls Tryz.prog 42 #[.pointer (some ⟨b, 0, none⟩), .int .u8 p, .agg #[.string ⟨x.s.toArray⟩, .bool x.qd]] w fun e w' => e = .returned (.bool (takeP c p x).2) ∧ BoxOf w' b 26 (takeP c p x).1 ∧ w.grownBy w' (some b) := by
  have hblt := hx.lt
  have HX := Lib.hid hx
  have hwb : Below w.heap.size w (w.alloc (.cells #[.string ⟨x.s.toArray⟩, .bool x.qd] 62)) := (Below.refl _ _).alloc (Nat.le_refl _) _
  have HV := Lib.hid (hv.below hwb)
  have HT := Lib.hid (ht.below hwb)
  have HX1 := Lib.hid (hx.below hwb)
  have HG := Lib.hid (gb_below hwb (some b))
  have e0 : (w.alloc (.cells #[.string ⟨x.s.toArray⟩, .bool x.qd] 62)).cell? ⟨w.heap.size, 0, none⟩ = some (.string ⟨x.s.toArray⟩) := new_cell _ _ _ _ _ rfl _ rfl
  have e1 : (w.alloc (.cells #[.string ⟨x.s.toArray⟩, .bool x.qd] 62)).cell? ⟨w.heap.size, 1, none⟩ = some (.bool x.qd) := new_cell _ _ _ _ _ rfl _ rfl
  obtain ⟨c0, c1, c2, c3, c4, c5, c6, c7, c8, c9, c10, c11, c12⟩ := hx.cells
  have fz := fun j => hx.frozen j
  clear hx hwb
  match p, hp with
  | 0, _ =>
    have f1 := fz 2
    have HR : Hid (takeP c 0 x = ({ c with set := x.s }, true)) := Lib.hid rfl
    clear hpol fz
    go_enter Tryz.func42, Tryz.ntmps42
    go_wp2_with fail
    go_ret
    rw [HR.out]
    exact ⟨rfl, BoxOf.below (show BoxOf (w.setCell ⟨b, 2, none⟩ (.string ⟨x.s.toArray⟩)) b 26 { c with set := x.s } from heap_set HX.out 2 _) ((Below.refl _ _).alloc (Nat.le_refl _) _), gb_alloc (gb_set (gb_refl w _) 2 _) _⟩
  | 1, _ =>
    have f1 := fz 3
    have HR : Hid (takeP c 1 x = ({ c with snap := x.s }, true)) := Lib.hid rfl
    clear hpol fz
    go_enter Tryz.func42, Tryz.ntmps42
    go_wp2_with fail
    go_ret
    rw [HR.out]
    exact ⟨rfl, BoxOf.below (show BoxOf (w.setCell ⟨b, 3, none⟩ (.string ⟨x.s.toArray⟩)) b 26 { c with snap := x.s } from heap_set HX.out 3 _) ((Below.refl _ _).alloc (Nat.le_refl _) _), gb_alloc (gb_set (gb_refl w _) 3 _) _⟩
  | 2, _ =>
    have f1 := fz 4
    have HR : Hid (takeP c 2 x = ({ c with other := x.s }, true)) := Lib.hid rfl
    clear hpol fz
    go_enter Tryz.func42, Tryz.ntmps42
    go_wp2_with fail
    go_ret
    rw [HR.out]
    exact ⟨rfl, BoxOf.below (show BoxOf (w.setCell ⟨b, 4, none⟩ (.string ⟨x.s.toArray⟩)) b 26 { c with other := x.s } from heap_set HX.out 4 _) ((Below.refl _ _).alloc (Nat.le_refl _) _), gb_alloc (gb_set (gb_refl w _) 4 _) _⟩
  | 3, _ =>
    have HR : Hid (takeP c 3 x = ({ c with cell := ((min (number x.s).1 16 : Nat) : Int) }, numOk x)) := Lib.hid rfl
    have hn := cnumber_any x hl _ HV.out
    have hm := number_lt x.s
    generalize (number x.s).1 = m at *
    generalize numOk x = ok at *
    have HN := Lib.hid hn
    clear hpol fz hn c0 c1 c2 c3 c4 c5 c6 c7 c8 c9 c10 c11 c12
    go_enter Tryz.func42, Tryz.ntmps42
    go_wp2_with (go_at_call 61; with_reducible refine HN.out.mono ?_)
    first | rintro e w1 rfl hb1 | rintro e w1 ⟨rfl, hb1⟩
    have HX2 := Lib.hid (HX1.out.below hb1)
    have f1 := HX2.out.frozen 6
    obtain ⟨c0, c1, c2, c3, c4, c5, c6, c7, c8, c9, c10, c11, c12⟩ := HX2.out.cells
    have HG2 := Lib.hid (gb_trans HG.out (gb_below hb1 _))
    have hmi : (m : Int) < 18446744073709551616 := by omega
    clear hb1
    have HMI : Hid (((min m 16 : Nat) : Int) = min (m : Int) 16) := Lib.hid (by omega)
    go_wp2_with fail
    go_ret
    rw [HR.out, HMI.out]
    exact ⟨rfl, heap_set HX2.out 6 _, gb_set HG2.out 6 _⟩
  | 4, _ =>
    have f1 := fz 5
    have HR : Hid (takeP c 4 x = ({ c with text := x.s }, true)) := Lib.hid rfl
    clear hpol fz
    go_enter Tryz.func42, Tryz.ntmps42
    go_wp2_with fail
    go_ret
    rw [HR.out]
    exact ⟨rfl, BoxOf.below (show BoxOf (w.setCell ⟨b, 5, none⟩ (.string ⟨x.s.toArray⟩)) b 26 { c with text := x.s } from heap_set HX.out 5 _) ((Below.refl _ _).alloc (Nat.le_refl _) _), gb_alloc (gb_set (gb_refl w _) 5 _) _⟩
  | 5, _ =>
    have HR : Hid (takeP c 5 x = ({ c with now := ((number x.s).1 : Int) }, numOk x)) := Lib.hid rfl
    have hn := cnumber_any x hl _ HV.out
    have hm := number_lt x.s
    generalize (number x.s).1 = m at *
    generalize numOk x = ok at *
    have HN := Lib.hid hn
    clear hpol fz hn c0 c1 c2 c3 c4 c5 c6 c7 c8 c9 c10 c11 c12
    go_enter Tryz.func42, Tryz.ntmps42
    go_wp2_with (go_at_call 61; with_reducible refine HN.out.mono ?_)
    first | rintro e w1 rfl hb1 | rintro e w1 ⟨rfl, hb1⟩
    have HX2 := Lib.hid (HX1.out.below hb1)
    have f1 := HX2.out.frozen 7
    obtain ⟨c0, c1, c2, c3, c4, c5, c6, c7, c8, c9, c10, c11, c12⟩ := HX2.out.cells
    have HG2 := Lib.hid (gb_trans HG.out (gb_below hb1 _))
    have hmi : (m : Int) < 18446744073709551616 := by omega
    clear hb1
    go_wp2_with fail
    go_ret
    rw [HR.out]
    exact ⟨rfl, heap_set HX2.out 7 _, gb_set HG2.out 7 _⟩
  | 6, _ =>
    have HR : Hid (takeP c 6 x = ({ c with keep := (polParse x.s).getD Pol.zero }, (polParse x.s).isSome)) := Lib.hid (by show (match polParse x.s with | some k => (({ c with keep := k } : Cmd), true) | none => ({ c with keep := Pol.zero }, false)) = _; cases polParse x.s <;> rfl)
    have HN := Lib.hid (hpol rfl _ HV.out HT.out)
    generalize (polParse x.s).isSome = ok at *
    generalize (polParse x.s).getD Pol.zero = kk at *
    clear hpol fz c0 c1 c2 c3 c4 c5 c6 c7 c8 c9 c10 c11 c12
    go_enter Tryz.func42, Tryz.ntmps42
    go_wp2_with (go_at_call 62; with_reducible refine HN.out.mono ?_)
    rintro e w1 ⟨⟨n, rfl, hok⟩, hb1⟩
    have hkk : encPol kk = .agg #[.int .i64 kk.last, .int .i64 kk.hours, .int .i64 kk.days, .int .i64 kk.weeks, .int .i64 kk.months] := rfl
    rw [hkk]
    clear hkk
    have HX2 := Lib.hid (HX1.out.below hb1)
    have f8 := HX2.out.frozen 8; have f9 := HX2.out.frozen 9; have f10 := HX2.out.frozen 10; have f11 := HX2.out.frozen 11; have f12 := HX2.out.frozen 12
    obtain ⟨c0, c1, c2, c3, c4, c5, c6, c7, c8, c9, c10, c11, c12⟩ := HX2.out.cells
    have HG2 := Lib.hid (gb_trans HG.out (gb_below hb1 (some b)))
    have hb1lt := HX2.out.lt
    have HOK := Lib.hid hok
    clear hb1 hok
    go_wp2_with fail
    go_ret
    rw [HR.out]
    have hb : (n == 0) = ok := by have h := HOK.out; cases ok <;> simpa using h
    refine ⟨ret_bool hb, ?_, ?_⟩
    · exact BoxOf.below (show BoxOf (((((w1.setCell ⟨b, 8, none⟩ (.int .i64 kk.last)).setCell ⟨b, 9, none⟩ (.int .i64 kk.hours)).setCell ⟨b, 10, none⟩ (.int .i64 kk.days)).setCell ⟨b, 11, none⟩ (.int .i64 kk.weeks)).setCell ⟨b, 12, none⟩ (.int .i64 kk.months)) b 26 { c with keep := kk } from heap_set (heap_set (heap_set (heap_set (heap_set HX2.out 8 _) 9 _) 10 _) 11 _) 12 _) ((Below.refl _ _).alloc (Nat.le_refl _) _)
    · exact gb_alloc (gb_set (gb_set (gb_set (gb_set (gb_set HG2.out 8 _) 9 _) 10 _) 11 _) 12 _) _
  | 7, _ =>
    have HR : Hid (takeP c 7 x = (c, isTheP x [64])) := Lib.hid rfl
    have HI := Lib.hid (fun w => isThe_any x [64] w)
    generalize isTheP x [64] = ok at *
    clear hpol fz c0 c1 c2 c3 c4 c5 c6 c7 c8 c9 c10 c11 c12
    go_enter Tryz.func42, Tryz.ntmps42
    go_wp2_with (go_at_call 25; with_reducible refine (HI.out _).mono ?_)
    first | rintro e w1 rfl hb1 | rintro e w1 ⟨rfl, hb1⟩
    go_wp2_with fail
    go_ret
    rw [HR.out]
    exact ⟨rfl, HX1.out.below hb1, gb_trans HG.out (gb_below hb1 _)⟩
  | 8, _ =>
    have HR : Hid (takeP c 8 x = (c, isTheP x v_from)) := Lib.hid rfl
    have HI := Lib.hid (fun w => isThe_any x v_from w)
    generalize isTheP x v_from = ok at *
    clear hpol fz c0 c1 c2 c3 c4 c5 c6 c7 c8 c9 c10 c11 c12
    go_enter Tryz.func42, Tryz.ntmps42
    go_wp2_with (go_at_call 25; with_reducible refine (HI.out _).mono ?_)
    first | rintro e w1 rfl hb1 | rintro e w1 ⟨rfl, hb1⟩
    go_wp2_with fail
    go_ret
    rw [HR.out]
    exact ⟨rfl, HX1.out.below hb1, gb_trans HG.out (gb_below hb1 _)⟩
  | (q + 9), h => exact absurd h (by omega)
end Go.Proofs.YtnkhiaikdmpimaaGreatDoor
