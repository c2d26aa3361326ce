/- policy.Parse. -/
import Derived.Test.YtnkhiaikdmpimaaGreatDoorPolSeq
import Derived.Test.YtnkhiaikdmpimaaGreatDoorPolCount
import Derived.Test.YtnkhiaikdmpimaaGreatDoorPolFind
import Derived.Test.YtnkhiaikdmpimaaGreatDoorCmdN
import Derived.Laws.Rows
import Derived.Laws.ResultCell
namespace Go.Proofs.YtnkhiaikdmpimaaGreatDoor
open Go.RowKit Lx
attribute [local go_sem] Oper.semAt_some wide_depth wide_fn

def PolBox (w : World) (b : Nat) (k : Pol) : Prop := w.heap[b]? = some (.cells #[.int .i64 k.last, .int .i64 k.hours, .int .i64 k.days, .int .i64 k.weeks, .int .i64 k.months] 24 (0, 0))
theorem infoPol : ((Tryz.prog).info? 24).map (·.size) = some 5 := by kernel_rfl
theorem ret_pol {fn : Func} (h : fn.results = #[.cell 2 24, .cell 3 29]) (tmps : Array Value) (w : World) (g e : Nat) (k : Pol) (n : Int)
    (h2 : tmps.getD 2 undef = .pointer (some ⟨g, 0, none⟩)) (h3 : tmps.getD 3 undef = .pointer (some ⟨e, 0, none⟩)) (hg : PolBox w g k) (he : w.cell? ⟨e, 0, none⟩ = some (.int .i64 n)) :
    (results fn tmps).run Tryz.prog w = .ok (.tuple #[encPol k, .int .i64 n]) w := by
  have h2' : tmps[2]?.getD undef = .pointer (some ⟨g, 0, none⟩) := by simpa using h2
  have h3' : tmps[3]?.getD undef = .pointer (some ⟨e, 0, none⟩) := by simpa using h3
  have hl := run_loadVar_row (P := Tryz.prog) w g 24 24 _ _ _ hg Tryz.underlying24 rfl infoPol
  have hl2 : (loadVar 29 ⟨e, 0, none⟩).run Tryz.prog w = .ok (.int .i64 n) w := by
    simp [go_sem, he]
  simp [results, h, h2', h3', asAddr, hl, hl2, encPol]
theorem PolBox.put {w : World} {b : Nat} {k : Pol} (h : PolBox w b k) (j : Nat) (hj : j < 5) (n : Int) : PolBox (w.setCell ⟨b, j, none⟩ (.int .i64 n)) b (k.put j n) := by
  match j, hj with
  | 0, _ => exact heap_set h 0 (.int .i64 n)
  | 1, _ => exact heap_set h 1 (.int .i64 n)
  | 2, _ => exact heap_set h 2 (.int .i64 n)
  | 3, _ => exact heap_set h 3 (.int .i64 n)
  | 4, _ => exact heap_set h 4 (.int .i64 n)
theorem PolBox.store {w : World} {b : Nat} {k : Pol} (h : PolBox w b k) (d : Pol) : PolBox (((((w.setCell ⟨b, 0, none⟩ (.int .i64 d.last)).setCell ⟨b, 1, none⟩ (.int .i64 d.hours)).setCell ⟨b, 2, none⟩ (.int .i64 d.days)).setCell ⟨b, 3, none⟩ (.int .i64 d.weeks)).setCell ⟨b, 4, none⟩ (.int .i64 d.months)) b d := by
  have h1 := heap_set (heap_set (heap_set (heap_set (heap_set h 0 (.int .i64 d.last)) 1 (.int .i64 d.hours)) 2 (.int .i64 d.days)) 3 (.int .i64 d.weeks)) 4 (.int .i64 d.months)
  exact h1

theorem PolBox.grown {A B : World} {b : Nat} {k : Pol} {row : Option Nat} (h : PolBox A b k) (hg : A.grownBy B row) (hr : ∀ j, row = some j → j ≠ b) : PolBox B b k :=
  (hg.block b (heap_lt h) (fun e => hr _ e.symm rfl)).trans h
theorem PolBox.frozen {w : World} {b : Nat} {k : Pol} (h : PolBox w b k) (j : Nat) : w.frozen? ⟨b, j, none⟩ = false := Lib.frozen_of_heap h j
theorem PolBox.cells {w : World} {b : Nat} {k : Pol} (h : PolBox w b k) : w.cell? ⟨b, 0, none⟩ = some (.int .i64 k.last) ∧ w.cell? ⟨b, 1, none⟩ = some (.int .i64 k.hours) ∧ w.cell? ⟨b, 2, none⟩ = some (.int .i64 k.days) ∧ w.cell? ⟨b, 3, none⟩ = some (.int .i64 k.weeks) ∧ w.cell? ⟨b, 4, none⟩ = some (.int .i64 k.months) := by
  unfold PolBox at h
  simp [World.cell?, h]
theorem PolBox.at {w : World} {b : Nat} {k : Pol} (h : PolBox w b k) (j : Nat) (hj : j < 5) : ∃ v, w.cell? ⟨b, j, none⟩ = some (.int .i64 v) := by
  obtain ⟨c0, c1, c2, c3, c4⟩ := h.cells
  match j, hj with
  | 0, _ => exact ⟨_, c0⟩
  | 1, _ => exact ⟨_, c1⟩
  | 2, _ => exact ⟨_, c2⟩
  | 3, _ => exact ⟨_, c3⟩
  | 4, _ => exact ⟨_, c4⟩
theorem PartsAt.grown {A B : World} {g b : Nat} {row : Option Nat} (h : PartsAt A g b) (hg : A.grownBy B row) (hr : ∀ j, row = some j → j ≠ g) : PartsAt B g b :=
  fun j hj => ⟨hg.cell (h j hj).1 (fun e => hr _ e.symm rfl), hg.cell (h j hj).2 (fun e => hr _ e.symm rfl)⟩
theorem others_below {W W' : World} (h : Below W.heap.size W W') : KeepsOthers W W' :=
  ⟨h.size, fun k _ hk _ => (h.block k (Array.getElem?_eq_some_iff.1 hk).1).trans hk⟩
theorem gb_of_below {W W' : World} (h : Below W.heap.size W W') : W.grownBy W' none := ⟨h.os, h.tape, h.output, h.size, fun k hk _ => h.block k hk⟩

theorem gb_trans1 {a b c : World} (h : a.grownBy b none) (k : b.grownBy c none) : a.grownBy c none :=
  ⟨k.os.trans h.os, k.tape.trans h.tape, k.output.trans h.output, Nat.le_trans h.size k.size, fun i hi _ => (k.block i (Nat.lt_of_lt_of_le hi h.size) (by simp)).trans (h.block i hi (by simp))⟩
/-- BETWEEN TWO ROUNDS: the results' cells, the policy as it stands, the parts that are left. -/
structure PolSt (L g : Nat) (k : Pol) (i o : Nat) (w W : World) : Prop where
  off : i = 5 ∨ o = i * 2
  res : PolBox W w.heap.size Pol.zero
  err : Boxed W (w.heap.size + 1) 29 (.int .i64 0)
  pol : PolBox W (w.heap.size + 2) k
  left : Boxed W L 94 (.slice (some ⟨g, o, none⟩) (5 - i) (5 - i))
  parts : PartsAt W g (w.heap.size + 2)
  below : Below w.heap.size w W
  le : L < W.heap.size
theorem PolSt.grown {L g : Nat} {k : Pol} {i o : Nat} {w A B : World} {row : Option Nat} (h : PolSt L g k i o w A) (hg : A.grownBy B row) (hN : w.heap.size + 2 < L) (hgL : g < L) (hr : ∀ j, row = some j → L < j) : PolSt L g k i o w B :=
  ⟨h.off, h.res.grown hg (fun j e => by have := hr j e; omega), h.err.kept hg (fun e => by have := hr _ e.symm; omega), h.pol.grown hg (fun j e => by have := hr j e; omega), h.left.kept hg (fun e => by have := hr _ e.symm; omega),
    h.parts.grown hg (fun j e => by have := hr j e; omega), h.below.grown hg h.below.size (fun j e => by have := hr j e; omega), Nat.lt_of_lt_of_le h.le hg.size⟩
structure PolEnd (w W : World) : Prop where
  res : PolBox W w.heap.size Pol.zero
  err : Boxed W (w.heap.size + 1) 29 (.int .i64 3)
  below : Below w.heap.size w W
/-- the zero policy and an error, stored into the results' cells -/
theorem PolSt.stop {L g : Nat} {k : Pol} {i o : Nat} {w W : World} (h : PolSt L g k i o w W) : PolEnd w ((((((W.setCell ⟨w.heap.size, 0, none⟩ (.int .i64 0)).setCell ⟨w.heap.size, 1, none⟩ (.int .i64 0)).setCell ⟨w.heap.size, 2, none⟩ (.int .i64 0)).setCell ⟨w.heap.size, 3, none⟩ (.int .i64 0)).setCell ⟨w.heap.size, 4, none⟩ (.int .i64 0)).setCell ⟨w.heap.size + 1, 0, none⟩ (.int .i64 3)) ∧
    KeepsOthers W ((((((W.setCell ⟨w.heap.size, 0, none⟩ (.int .i64 0)).setCell ⟨w.heap.size, 1, none⟩ (.int .i64 0)).setCell ⟨w.heap.size, 2, none⟩ (.int .i64 0)).setCell ⟨w.heap.size, 3, none⟩ (.int .i64 0)).setCell ⟨w.heap.size, 4, none⟩ (.int .i64 0)).setCell ⟨w.heap.size + 1, 0, none⟩ (.int .i64 3)) := by
  have g5 : W.grownBy (((((W.setCell ⟨w.heap.size, 0, none⟩ (.int .i64 0)).setCell ⟨w.heap.size, 1, none⟩ (.int .i64 0)).setCell ⟨w.heap.size, 2, none⟩ (.int .i64 0)).setCell ⟨w.heap.size, 3, none⟩ (.int .i64 0)).setCell ⟨w.heap.size, 4, none⟩ (.int .i64 0)) (some w.heap.size) :=
    gb_set (gb_set (gb_set (gb_set (gb_set (gb_refl _ _) 0 _) 1 _) 2 _) 3 _) 4 _
  have q5 := h.res.store Pol.zero
  have x5 := h.err.kept g5 (by simp)
  have y5 := h.below.grown g5 h.below.size (fun j e => by cases e; exact Nat.le_refl _)
  refine ⟨?_, (((((KeepsOthers.setCell _ _ _).trans (KeepsOthers.setCell _ _ _)).trans (KeepsOthers.setCell _ _ _)).trans (KeepsOthers.setCell _ _ _)).trans (KeepsOthers.setCell _ _ _)).trans (KeepsOthers.setCell _ _ _)⟩
  obtain ⟨W5, hW5⟩ : ∃ W5, (((((W.setCell ⟨w.heap.size, 0, none⟩ (.int .i64 0)).setCell ⟨w.heap.size, 1, none⟩ (.int .i64 0)).setCell ⟨w.heap.size, 2, none⟩ (.int .i64 0)).setCell ⟨w.heap.size, 3, none⟩ (.int .i64 0)).setCell ⟨w.heap.size, 4, none⟩ (.int .i64 0)) = W5 := ⟨_, rfl⟩
  have q5' : PolBox (((((W.setCell ⟨w.heap.size, 0, none⟩ (.int .i64 0)).setCell ⟨w.heap.size, 1, none⟩ (.int .i64 0)).setCell ⟨w.heap.size, 2, none⟩ (.int .i64 0)).setCell ⟨w.heap.size, 3, none⟩ (.int .i64 0)).setCell ⟨w.heap.size, 4, none⟩ (.int .i64 0)) w.heap.size Pol.zero := q5
  rw [hW5] at g5 q5' x5 y5 ⊢
  have g6 := gb_set (gb_refl W5 (some (w.heap.size + 1))) 0 (.int .i64 3)
  exact ⟨q5'.grown g6 (fun j e => by cases e; omega), x5.set (.int .i64 3), y5.grown g6 y5.size (fun j e => by cases e; omega)⟩
theorem PolEnd.grown {w A B : World} {row : Option Nat} (h : PolEnd w A) (hg : A.grownBy B row) (hr : ∀ j, row = some j → w.heap.size + 1 < j) : PolEnd w B :=
  ⟨h.res.grown hg (fun j e => by have := hr j e; omega), h.err.kept hg (fun e => by have := hr _ e.symm; omega), h.below.grown hg h.below.size (fun j e => by have := hr j e; omega)⟩

set_option maxRecDepth 100000 in
theorem splitseq_any (s : List UInt8) (w : World) :
    Calls Tryz.prog 79 #[.string ⟨s.toArray⟩, .string ⟨#[32]⟩] w fun e w' => e = .returned (.func (.func 109) #[] #[.pointer (some ⟨w.heap.size + 1, 0, none⟩), .pointer (some ⟨w.heap.size, 0, none⟩), .pointer (some ⟨w.heap.size + 2, 0, none⟩)]) ∧
      SeqAt (w.heap.size + 1) w.heap.size (w.heap.size + 2) s w' ∧ w'.heap.size = w.heap.size + 3 ∧ Below w.heap.size w w' := by
  have HI : Hid (Calls Tryz.prog 98 #[.string ⟨s.toArray⟩, .string ⟨#[32]⟩, .int .i64 0] w fun e w' => e = .returned (.func (.func 109) #[] #[.pointer (some ⟨w.heap.size + 1, 0, none⟩), .pointer (some ⟨w.heap.size, 0, none⟩), .pointer (some ⟨w.heap.size + 2, 0, none⟩)]) ∧
      w' = ((w.alloc (.cells #[.string ⟨s.toArray⟩] 9)).alloc (.cells #[.string ⟨#[32]⟩] 9)).alloc (.cells #[.int .i64 0] 3)) := Lib.hid (by
    go_enter Tryz.func98, Tryz.ntmps98
    go_wp2_with fail
    go_ret
    exact ⟨rfl, rfl⟩)
  go_enter Tryz.func79, Tryz.ntmps79
  go_wp2_with (go_at_call 98; with_reducible refine HI.out.mono ?_; rintro e w1 ⟨rfl, rfl⟩)
  go_ret
  have b0 := Boxed.new w 9 (.string ⟨s.toArray⟩)
  have b1 := Boxed.new (w.alloc (.cells #[.string ⟨s.toArray⟩] 9)) 9 (.string ⟨#[32]⟩)
  have b2 := Boxed.new ((w.alloc (.cells #[.string ⟨s.toArray⟩] 9)).alloc (.cells #[.string ⟨#[32]⟩] 9)) 3 (.int .i64 0)
  simp only [World.size_alloc] at b1 b2
  refine ⟨rfl, ⟨b1.alloc _, (b0.alloc _).alloc _, b2⟩, by simp, (((Below.refl _ _).alloc (Nat.le_refl _) _).alloc (by simp) _).alloc (by simp; omega) _⟩

set_option maxHeartbeats 2000000 in
set_option maxRecDepth 100000 in
theorem parse_pol (s : List UInt8) (hs : s.length ≤ 4000) : PolSpec s := by
  intro w hv ht
  by_cases hn : s = v_none
  · subst hn
    have e : polParse v_none = some Pol.zero := rfl
    rw [e]
    go_enter Tryz.func62, Tryz.ntmps62
    go_wp2_with fail
    have p0 : PolBox (((w.alloc (.cells #[.int .i64 0, .int .i64 0, .int .i64 0, .int .i64 0, .int .i64 0] 24)).alloc (.cells #[.int .i64 0] 29)).alloc (.cells #[.int .i64 0, .int .i64 0, .int .i64 0, .int .i64 0, .int .i64 0] 24)) w.heap.size Pol.zero :=
      (Below.heap_alloc _ _ _ (by simp; omega)).trans ((Below.heap_alloc _ _ _ (by simp)).trans (heap_alloc_new w _))
    have c1 := (Boxed.new (w.alloc (.cells #[.int .i64 0, .int .i64 0, .int .i64 0, .int .i64 0, .int .i64 0] 24)) 29 (.int .i64 0)).alloc (.cells #[.int .i64 0, .int .i64 0, .int .i64 0, .int .i64 0, .int .i64 0] 24)
    rw [World.size_alloc] at c1
    refine bodyPost_ret (v := .tuple #[encPol Pol.zero, .int .i64 0]) (ret_pol rfl _ _ w.heap.size (w.heap.size + 1) Pol.zero 0 rfl rfl p0 c1.cell) rfl ?_
    exact ⟨⟨0, rfl, by simp⟩, (((Below.refl _ _).alloc (Nat.le_refl _) _).alloc (by simp) _).alloc (by simp; omega) _⟩
  · have hb : (s == [110, 111, 110, 101]) = false := by simpa using hn
    have HPE : Hid (polParse s = ((splitSp s).foldlM polStep (Pol.zero, 0)).map (·.1)) := Lib.hid (by unfold polParse; rw [if_neg hn])
    have HV := Lib.hid hv
    have HT := Lib.hid ht
    have HPT := Lib.hid (fun (b : Nat) (w : World) => callsIn_wide (n := 4) |>.2 (polParts_any b w))
    have HSS := Lib.hid (fun (w : World) => callsIn_wide (n := 4) |>.2 (splitseq_any s w))
    clear hn hv ht
    refine (callsIn_wide (n := 5)).1 ?_
    refine callsIn_of_wp_marks Tryz.func62 rfl trivial ?_ rfl
    simp only [Tryz.ntmps62, List.size_toArray, List.length_cons, List.length_nil, Nat.reduceAdd, Nat.reduceSub, Array.replicate_succ, Array.replicate_zero, List.push_toArray, List.append_toArray, List.nil_append, List.cons_append]
    gi_wp2_with (gi_at_call 51; with_reducible refine (HPT.out _ _).mono ?_)
    rintro e w1 ⟨g, rfl, hparts, hgl, hb1⟩
    obtain ⟨W0, hW0⟩ : ∃ W0, ((w.alloc (.cells #[.int .i64 0, .int .i64 0, .int .i64 0, .int .i64 0, .int .i64 0] 24)).alloc (.cells #[.int .i64 0] 29)).alloc (.cells #[.int .i64 0, .int .i64 0, .int .i64 0, .int .i64 0, .int .i64 0] 24) = W0 := ⟨_, rfl⟩
    rw [hW0] at hgl hb1
    have hs0 : W0.heap.size = w.heap.size + 3 := by rw [← hW0]; simp
    have hst0 : PolBox W0 w.heap.size Pol.zero ∧ Boxed W0 (w.heap.size + 1) 29 (.int .i64 0) ∧ PolBox W0 (w.heap.size + 2) Pol.zero ∧ Below w.heap.size w W0 := by
      have c1 := (Boxed.new (w.alloc (.cells #[.int .i64 0, .int .i64 0, .int .i64 0, .int .i64 0, .int .i64 0] 24)) 29 (.int .i64 0)).alloc (.cells #[.int .i64 0, .int .i64 0, .int .i64 0, .int .i64 0, .int .i64 0] 24)
      have c2 := heap_alloc_new ((w.alloc (.cells #[.int .i64 0, .int .i64 0, .int .i64 0, .int .i64 0, .int .i64 0] 24)).alloc (.cells #[.int .i64 0] 29)) (.cells #[.int .i64 0, .int .i64 0, .int .i64 0, .int .i64 0, .int .i64 0] 24)
      simp only [World.size_alloc] at c1 c2
      rw [← hW0]
      exact ⟨(Below.heap_alloc _ _ _ (by simp; omega)).trans ((Below.heap_alloc _ _ _ (by simp)).trans (heap_alloc_new w _)), c1, c2, (((Below.refl _ _).alloc (Nat.le_refl _) _).alloc (by simp) _).alloc (by simp; omega) _⟩
    have hgr1 := gb_of_below hb1
    have hp1 := hst0.1.grown hgr1 (fun j e => by cases e)
    have he1 := hst0.2.1.kept hgr1 (by simp)
    have hq1 := hst0.2.2.1.grown hgr1 (fun j e => by cases e)
    have hbw1 : Below w.heap.size w w1 := hst0.2.2.2.trans (hb1.mono (by omega))
    have hgw : g < w1.heap.size := World.block_lt_of_cell? w1 _ (hparts 0 (by decide)).1
    have hsz1 := hb1.size
    have HST1 := Lib.hid hst0
    clear hst0 hW0 hgr1
    gi_wp2_with (gi_at_call 79; with_reducible refine (HSS.out _).mono ?_)
    rintro e w2 ⟨rfl, hseq, hsz2, hb2⟩
    simp only [World.size_alloc] at hseq hsz2
    have hgr2 : w1.grownBy w2 none := gb_trans1 (World.grownBy_alloc w1 _ none) (gb_of_below hb2)
    have hst2 : PolSt w1.heap.size g Pol.zero 0 0 w w2 := by
      refine ⟨.inr rfl, hp1.grown hgr2 (fun j e => by cases e), he1.kept hgr2 (by simp), hq1.grown hgr2 (fun j e => by cases e), ?_, hparts.grown hgr2 (fun j e => by cases e), hbw1.grown hgr2 hbw1.size (fun j e => by cases e), by omega⟩
      exact (Boxed.new w1 94 (.slice (some ⟨g, 0, none⟩) 5 5)).kept (gb_of_below hb2) (by simp)
    have HSEQ := Lib.hid hseq
    have HGR := Lib.hid hgr2
    clear hb2 hgr2 hp1 he1 hq1 hbw1 hb1 hparts HST1
    gi_wp2
    refine range_cell (n := 5) (gf := 109) (lb := #[.pointer (some ⟨w1.heap.size + 1 + 1, 0, none⟩), .pointer (some ⟨w1.heap.size + 1, 0, none⟩), .pointer (some ⟨w1.heap.size + 1 + 2, 0, none⟩)]) rfl (enters_of Tryz.func109 (by kernel_rfl) rfl)
      (encs := fun x : List UInt8 => #[.string ⟨x.toArray⟩]) (fun _ => rfl) (split_seq s hs (w1.heap.size + 1 + 1) (w1.heap.size + 1) (w1.heap.size + 1 + 2) (by omega) (by omega) _) (by omega) (by omega)
      SeqSame.trans (fun W o => SeqSame.put (by omega) (by omega) (by omega) W o)
      (fun W hg => hseq.same (SeqSame.grown hg (by omega) (by omega) (by omega) (fun k e => by cases e)))
      (fun pre W => ∃ k i o, pre.foldlM polStep (Pol.zero, 0) = some (k, i) ∧ i ≤ 5 ∧ PolSt w1.heap.size g k i o w W)
      (fun c pre W => c = .ret ∧ pre.foldlM polStep (Pol.zero, 0) = none ∧ PolEnd w W)
      (fun s A B row ⟨k, i, o, h1, h2, h3⟩ hg hr => ⟨k, i, o, h1, h2, h3.grown hg (by omega) hgw (fun j e => by rcases hr j e with h | h <;> omega)⟩)
      (fun c s A B row ⟨h1, h2, h3⟩ hg hr => ⟨h1, h2, h3.grown hg (fun j e => by rcases hr j e with h | h <;> omega)⟩)
      ⟨Pol.zero, 0, 0, rfl, by omega, hst2⟩
      (fun x => { tmps := #[.string ⟨s.toArray⟩, undef, .pointer (some ⟨w.heap.size, 0, none⟩), .pointer (some ⟨w.heap.size + 1, 0, none⟩), .pointer (some ⟨w.heap.size + 1 + 1, 0, none⟩), .pointer (some ⟨w1.heap.size, 0, none⟩), .string ⟨x.toArray⟩, undef, undef, undef, undef, undef, .string ⟨s.toArray⟩, .bool false, undef, .slice (some ⟨g, 0, none⟩) 5 5, .string ⟨s.toArray⟩, .func (.func 109) #[] #[.pointer (some ⟨w1.heap.size + 1 + 1, 0, none⟩), .pointer (some ⟨w1.heap.size + 1, 0, none⟩), .pointer (some ⟨w1.heap.size + 1 + 2, 0, none⟩)], .string ⟨x.toArray⟩, undef, undef, undef, undef, undef, undef, undef, undef, undef, undef, undef, undef, undef, undef, undef, undef, undef, undef, undef, undef, undef, undef, undef, undef, undef, undef, undef, undef, undef, undef], defers := [] }) ?assign ?body ?done ?stop
    case assign =>
      intro l x W K hK
      gi_wp2
      exact hK
    case body =>
      rintro l pre x W ⟨k, i, o, hfold, hi, hst⟩ hsp hsz
      have hxl : x.length ≤ 4000 := Nat.le_trans (splitSp_pre hsp) hs
      have HCU := Lib.hid (fun (w : World) => CallsIn.inRound l (callsIn_wide (n := 2) |>.2 (cut_any x hxl w)))
      have hcl := cutEq_len x
      have HST := Lib.hid hst
      have HF1 : Hid ((pre ++ [x]).foldlM polStep (Pol.zero, 0) = polStep (k, i) x) := Lib.hid (foldlM_snoc _ _ _ _ _ hfold)
      have HPST : Hid (polStep (k, i) x = match findName i (cutEq x).1 with | none => none | some j => if cntP (cutEq x).2 = 0 then none else some (k.put j (cntP (cutEq x).2), j + 1)) := Lib.hid rfl
      generalize hnm : (cutEq x).1 = nm at *
      generalize hdg : (cutEq x).2 = dg at *
      clear hnm hdg hfold hsp
      gi_wp2_with (gi_at_call 80; with_reducible refine (HCU.out _).mono ?_)
      rintro e W3 ⟨⟨bb, rfl⟩, hb3⟩
      have g3 := gb_of_below hb3
      have hst3 := HST.out.grown g3 (by omega) hgw (fun j e => by cases e)
      have hn3 := Boxed.new W3 9 (.string ⟨nm.toArray⟩)
      have g3a := World.grownBy_alloc W3 (.cells #[.string ⟨nm.toArray⟩] 9) none
      have hst3a := hst3.grown g3a (by omega) hgw (fun j e => by cases e)
      have HFD := Lib.hid (CallsIn.inRound l (callsIn_wide (n := 2) |>.2 (find_any i (5 - i) o (by omega) (by have := hst3a.off; omega) g (w.heap.size + 2) (5 - i) W3.heap.size nm _ hst3a.parts hn3.cell)))
      have HST3 := Lib.hid hst3a
      have HN3 := Lib.hid hn3
      have hlc := hst3.left.cell
      have hle3 := hst3.le
      have HG3 := Lib.hid (gb_trans1 g3 g3a)
      clear hst hst3 hst3a hb3 g3 g3a hn3
      gi_wp2_with (gi_at_call 81; with_reducible refine HFD.out.mono ?_)
      rintro e W4 ⟨rfl, hb4⟩
      have g4 := gb_of_below hb4
      have hst4 := HST3.out.grown g4 (by omega) hgw (fun j e => by cases e)
      have HCT := Lib.hid (fun (W : World) (h : HasErr W) => CallsIn.inRound l (callsIn_wide (n := 2) |>.2 (count_any dg (by omega) W h)))
      have hv4 : HasErr W4 := HV.out.below hst4.below
      have HG4 := Lib.hid (gb_trans1 HG3.out g4)
      have HST4 := Lib.hid hst4
      have HV4 := Lib.hid hv4
      clear hlc hb4 g4 hst4 hv4 HFD HST3 hle3
      gi_wp2_with (gi_at_call 83; with_reducible refine (HCT.out _ HV4.out).mono ?_)
      rintro e W5 ⟨rfl, hb5⟩
      have g5 := gb_of_below hb5
      have hst5 := HST4.out.grown g5 (by omega) hgw (fun j e => by cases e)
      have HG5 := Lib.hid (gb_trans1 HG4.out g5)
      have HST5 := Lib.hid hst5
      clear hb5 g5 HST4 HV4 HCT
      have HKO : Hid (KeepsOthers W W5) := Lib.hid (others_below ⟨HG5.out.os, HG5.out.tape, HG5.out.output, HG5.out.size, fun k hk => HG5.out.block k hk (by simp)⟩)
      have hn5 := HST5.out
      obtain ⟨r0, r1, r2, r3, r4⟩ := hn5.res.cells
      have f0 := hn5.res.frozen 0; have f1 := hn5.res.frozen 1; have f2 := hn5.res.frozen 2; have f3 := hn5.res.frozen 3; have f4 := hn5.res.frozen 4
      have e0 := hn5.err.cell
      have e1 := hn5.err.frozen
      clear hst5 hn5
      generalize cntP dg = c at *
      have hfind : findI i nm = match findName i nm with | none => -1 | some j => ((j - i : Nat) : Int) := rfl
      cases hfn : findName i nm with
      | none =>
        rw [hfn] at hfind
        rw [show findI i nm = -1 from hfind]
        have HNO : Hid ((pre ++ [x]).foldlM polStep (Pol.zero, 0) = none) := Lib.hid (by rw [HF1.out, HPST.out, hfn])
        clear hfind hfn
        gi_wp2
        exact ⟨(HKO.out.trans HST5.out.stop.2).from _, rfl, HNO.out, HST5.out.stop.1⟩
      | some j =>
        obtain ⟨hij, hj5, hname⟩ := findName_ge hfn
        obtain ⟨d, rfl⟩ : ∃ d, j = i + d := ⟨j - i, by omega⟩
        rw [hfn] at hfind
        rw [show findI i nm = (d : Int) from by rw [hfind]; simp]
        have hd0 : ¬ (d : Int) < 0 := by omega
        by_cases hc : c = 0
        · subst hc
          have HNO : Hid ((pre ++ [x]).foldlM polStep (Pol.zero, 0) = none) := Lib.hid (by rw [HF1.out, HPST.out, hfn]; rfl)
          clear hfind hfn hname
          gi_wp2
          exact ⟨(HKO.out.trans HST5.out.stop.2).from _, rfl, HNO.out, HST5.out.stop.1⟩
        · have hc0 : ((c : Int) == 0) = false := by simpa using hc
          have HYES : Hid ((pre ++ [x]).foldlM polStep (Pol.zero, 0) = some (k.put (i + d) c, i + d + 1)) := Lib.hid (by rw [HF1.out, HPST.out, hfn]; simp [hc])
          obtain ⟨v, hpv⟩ := HST5.out.pol.at (i + d) hj5
          have hpf := HST5.out.pol.frozen (i + d)
          have hpp := (HST5.out.parts (i + d) hj5).2
          have hoff := HST5.out.off
          rw [show (i + d) * 2 + 1 = o + d * 2 + 1 by omega] at hpp
          have hlc := HST5.out.left.cell
          have hlf := HST5.out.left.frozen
          have hdl : (d : Int) < ((5 - i : Nat) : Int) := by omega
          have HLT : Hid (∀ ov, (ov = o + (d + 1) * 2 ∨ 5 - i = d + 1) → PolSt w1.heap.size g (k.put (i + d) c) (i + d + 1) ov w ((W5.setCell ⟨w.heap.size + 2, i + d, none⟩ (.int .i64 c)).setCell ⟨w1.heap.size, 0, none⟩ (.slice (some ⟨g, ov, none⟩) (5 - i - (d + 1)) (5 - i - (d + 1)))) ∧
              SeqSame (w1.heap.size + 1 + 1) (w1.heap.size + 1) (w1.heap.size + 1 + 2) W ((W5.setCell ⟨w.heap.size + 2, i + d, none⟩ (.int .i64 c)).setCell ⟨w1.heap.size, 0, none⟩ (.slice (some ⟨g, ov, none⟩) (5 - i - (d + 1)) (5 - i - (d + 1))))) := Lib.hid (fun ov hov => by
            have h5 := HST5.out
            have ga := gb_set (gb_refl W5 (some (w.heap.size + 2))) (i + d) (.int .i64 c)
            have pa := h5.pol.put (i + d) hj5 c
            have ra := h5.res.grown ga (fun j e => by cases e; omega)
            have ea := h5.err.kept ga (by simp)
            have la := h5.left.kept ga (by simp; omega)
            have ba := h5.below.grown ga h5.below.size (fun j e => by cases e; omega)
            have qa := h5.parts.grown ga (fun j e => by cases e; omega)
            obtain ⟨Wa, hWa⟩ : ∃ Wa, W5.setCell ⟨w.heap.size + 2, i + d, none⟩ (.int .i64 c) = Wa := ⟨_, rfl⟩
            rw [hWa] at ga pa ra ea la ba qa ⊢
            have gb := gb_set (gb_refl Wa (some w1.heap.size)) 0 (.slice (some ⟨g, ov, none⟩) (5 - i - (d + 1)) (5 - i - (d + 1)))
            have lb := la.set (.slice (some ⟨g, ov, none⟩) (5 - i - (d + 1)) (5 - i - (d + 1)))
            have hsW := HG5.out.size
            refine ⟨⟨by omega, ra.grown gb (fun j e => by cases e; omega), ea.kept gb (by simp; omega), pa.grown gb (fun j e => by cases e; omega), by rw [show 5 - (i + d + 1) = 5 - i - (d + 1) by omega]; exact lb, qa.grown gb (fun j e => by cases e; omega), ba.grown gb ba.size (fun j e => by cases e; omega), Nat.lt_of_lt_of_le h5.le (Nat.le_trans ga.size gb.size)⟩, ?_⟩
            have s1 : SeqSame (w1.heap.size + 1 + 1) (w1.heap.size + 1) (w1.heap.size + 1 + 2) W W5 := SeqSame.grown HG5.out (by omega) (by omega) (by omega) (fun k e => by cases e)
            have s2 : SeqSame (w1.heap.size + 1 + 1) (w1.heap.size + 1) (w1.heap.size + 1 + 2) W5 Wa := SeqSame.grown ga (by omega) (by omega) (by omega) (fun k e => by cases e; omega)
            have hsA := ga.size
            have s3 := SeqSame.grown (pb := w1.heap.size + 1 + 1) (sb := w1.heap.size + 1) (vb := w1.heap.size + 1 + 2) gb (by omega) (by omega) (by omega) (fun k e => by cases e; omega)
            exact SeqSame.trans _ _ _ (SeqSame.trans _ _ _ s1 s2) s3)
          clear hfind hfn hname r0 r1 r2 r3 r4 f0 f1 f2 f3 f4 e0 e1 hoff
          gi_wp2
          · rename_i h
            have hl := HLT.out o (.inr h)
            rw [show 5 - i - (d + 1) = 0 by omega] at hl
            exact ⟨(HKO.out.trans ((KeepsOthers.setCell _ _ _).trans (KeepsOthers.setCell _ _ _))).from _, hl.2, ⟨k.put (i + d) c, i + d + 1, HYES.out, hj5, o, hl.1⟩⟩
          · have hl := HLT.out (o + (d + 1) * 2) (.inl rfl)
            exact ⟨(HKO.out.trans ((KeepsOthers.setCell _ _ _).trans (KeepsOthers.setCell _ _ _))).from _, hl.2, ⟨k.put (i + d) c, i + d + 1, HYES.out, hj5, o + (d + 1) * 2, hl.1⟩⟩
    case done =>
      rintro xs W rfl ⟨k, i, o, hfold, hi, hst⟩ hK
      have HST := Lib.hid hst
      have HPS : Hid (polParse s = some k) := Lib.hid (by rw [HPE.out, hfold]; rfl)
      have hk4 : W.cell? ⟨w.heap.size + 1 + 1, 0, none⟩ = some (.int .i64 k.last) ∧ W.cell? ⟨w.heap.size + 1 + 1, 1, none⟩ = some (.int .i64 k.hours) ∧ W.cell? ⟨w.heap.size + 1 + 1, 2, none⟩ = some (.int .i64 k.days) ∧ W.cell? ⟨w.heap.size + 1 + 1, 3, none⟩ = some (.int .i64 k.weeks) ∧ W.cell? ⟨w.heap.size + 1 + 1, 4, none⟩ = some (.int .i64 k.months) := hst.pol.cells
      obtain ⟨k0, k1, k2, k3, k4⟩ := hk4
      obtain ⟨r0, r1, r2, r3, r4⟩ := hst.res.cells
      have f0 := hst.res.frozen 0; have f1 := hst.res.frozen 1; have f2 := hst.res.frozen 2; have f3 := hst.res.frozen 3; have f4 := hst.res.frozen 4
      have e0 := hst.err.cell
      have e1 := hst.err.frozen
      have HK := Lib.hid hK
      clear hst hfold hK
      gi_wp2
      have hst := HST.out
      have g5 : W.grownBy (((((W.setCell ⟨w.heap.size, 0, none⟩ (.int .i64 k.last)).setCell ⟨w.heap.size, 1, none⟩ (.int .i64 k.hours)).setCell ⟨w.heap.size, 2, none⟩ (.int .i64 k.days)).setCell ⟨w.heap.size, 3, none⟩ (.int .i64 k.weeks)).setCell ⟨w.heap.size, 4, none⟩ (.int .i64 k.months)) (some w.heap.size) :=
        gb_set (gb_set (gb_set (gb_set (gb_set (gb_refl _ _) 0 _) 1 _) 2 _) 3 _) 4 _
      have q5 := hst.res.store k
      have x5 := hst.err.kept g5 (by simp)
      have y5 := hst.below.grown g5 hst.below.size (fun j e => by cases e; exact Nat.le_refl _)
      have d5 := (g5.block w2.heap.size (Array.getElem?_eq_some_iff.1 HK.out).1 (by simp; omega)).trans HK.out
      obtain ⟨W5, hW5⟩ : ∃ W5, (((((W.setCell ⟨w.heap.size, 0, none⟩ (.int .i64 k.last)).setCell ⟨w.heap.size, 1, none⟩ (.int .i64 k.hours)).setCell ⟨w.heap.size, 2, none⟩ (.int .i64 k.days)).setCell ⟨w.heap.size, 3, none⟩ (.int .i64 k.weeks)).setCell ⟨w.heap.size, 4, none⟩ (.int .i64 k.months)) = W5 := ⟨_, rfl⟩
      rw [hW5] at g5 q5 x5 y5 d5 ⊢
      have g6 := gb_set (gb_refl W5 (some (w.heap.size + 1))) 0 (.int .i64 0)
      have q6 := q5.grown g6 (fun j e => by cases e; omega)
      have x6 := x5.set (.int .i64 0)
      have y6 := y5.grown g6 y5.size (fun j e => by cases e; omega)
      have d6 := (g6.block w2.heap.size (Array.getElem?_eq_some_iff.1 d5).1 (by simp; omega)).trans d5
      refine ⟨by simp, .inl ⟨_, _, rfl, run_takeDeferred d6, ?_⟩⟩
      have g7 := grownBy_putObj' (W5.setCell ⟨w.heap.size + 1, 0, none⟩ (.int .i64 0)) w2.heap.size (.deferred none)
      refine ⟨.tuple #[encPol k, .int .i64 0], ret_pol rfl _ _ w.heap.size (w.heap.size + 1) k 0 rfl rfl (q6.grown g7 (fun j e => by cases e; omega)) (x6.kept g7 (by simp; omega)).cell, ?_⟩
      rw [HPS.out]
      exact ⟨⟨0, rfl, by simp⟩, y6.grown g7 y6.size (fun j e => by cases e; omega)⟩
    case stop =>
      rintro c pre W hpre ⟨rfl, hfold, hend⟩ hK
      have HPS : Hid (polParse s = none) := Lib.hid (by
        obtain ⟨rest, hrest⟩ := hpre
        rw [HPE.out, ← hrest, foldlM_none _ _ _ _ hfold]; rfl)
      gi_wp2
      refine ⟨by simp, .inl ⟨_, _, rfl, run_takeDeferred hK, ?_⟩⟩
      have he := hend.grown (grownBy_putObj' W w2.heap.size (.deferred none)) (fun j e => by cases e; omega)
      refine ⟨.tuple #[encPol Pol.zero, .int .i64 3], ret_pol rfl _ _ w.heap.size (w.heap.size + 1) Pol.zero 3 rfl rfl he.res he.err.cell, ?_⟩
      rw [HPS.out]
      exact ⟨⟨3, rfl, by decide⟩, he.below⟩
end Go.Proofs.YtnkhiaikdmpimaaGreatDoor
