/- lex's scanner: WHAT ITS BLOCK HOLDS; (*scanner).quoted. -/
import Derived.Test.YtnkhiaikdmpimaaGreatDoorLexD
import Derived.Deep.RegionHeld3
import Derived.Deep.AppendLies
import Derived.Deep.DrawnRows
import Derived.Deep.DeepCutAuto
import Derived.StillTailTactics
namespace Go.Proofs.YtnkhiaikdmpimaaGreatDoor
open Go.RowKit Lx

/-- words as the cells of a row of lex.Word -/
def wcells : List W → List Value
  | [] => []
  | x :: l => .string ⟨x.s.toArray⟩ :: .bool x.qd :: wcells l
theorem wcells_append (a b : List W) : wcells (a ++ b) = wcells a ++ wcells b := by
  induction a with
  | nil => rfl
  | cons x a ih => simp only [List.cons_append, wcells, ih]
theorem wcells_length (l : List W) : (wcells l).length = l.length * 2 := by
  induction l with
  | nil => rfl
  | cons x l ih => simp only [wcells, List.length_cons, ih]; omega
def bcells (l : List UInt8) : List Value := l.map fun c => .int .u8 c.toNat

/-- block b is a scanner: what is left of the line, the words so far, whether it is bad -/
def Scan (w : World) (B b : Nat) (s : List UInt8) (l : List W) (bad : Bool) : Prop :=
  B ≤ b ∧ ∃ v, w.heap[b]? = some (.cells #[.string ⟨s.toArray⟩, v, .bool bad] 86 (0, 0)) ∧ w.ownsRow B 62 2 v l.length (wcells l) ∧ v.ownBlock ≠ some b

theorem infoWord : (Tryz.prog.info? 62).map (fun i => (i.zero, i.size, i.bytes)) = some (some (.agg #[.string ByteArray.empty, .bool false]), 2, 24) := by kernel_rfl
theorem infoByte : (Tryz.prog.info? 5).map (fun i => (i.zero, i.size, i.bytes)) = some (some (.int .u8 0), 1, 1) := by kernel_rfl

/-- what quoted leaves -/
def After (w : World) (B b : Nat) (l : List W) : Option (List UInt8 × List UInt8) → Prop
  | some (t, r) => Scan w B b r (l ++ [⟨t, true⟩]) false
  | none => ∃ s' l', Scan w B b s' l' true ∧ l'.length ≤ l.length + 1

theorem own_keep {w w' : World} {base : Nat} {e : TypeId} {size : Nat} {v : Value} {n : Nat} {xs : List Value} (h : w.ownsRow base e size v n xs) (hk : ∀ g, v.ownBlock = some g → w'.heap[g]? = w.heap[g]?) : w'.ownsRow base e size v n xs := by
  rcases h with ⟨h1, ⟨hv, hn⟩ | ⟨g, cap, cur, hv, hb, hg, rest⟩⟩
  · exact ⟨h1, .inl ⟨hv, hn⟩⟩
  · exact ⟨h1, .inr ⟨g, cap, cur, hv, hb, (hk g (by rw [hv]; rfl)).trans hg, rest⟩⟩
theorem own_lt {w : World} {base : Nat} {e : TypeId} {size : Nat} {v : Value} {n : Nat} {xs : List Value} (h : w.ownsRow base e size v n xs) {g : Nat} (hg : v.ownBlock = some g) : base ≤ g ∧ g < w.heap.size := by
  rcases h with ⟨_, ⟨hv, _⟩ | ⟨g', cap, cur, hv, hb, hh, _⟩⟩
  · rw [hv] at hg; cases hg
  · rw [hv] at hg
    obtain rfl : g' = g := by simpa [Value.ownBlock] using hg
    refine ⟨hb, ?_⟩
    rcases Nat.lt_or_ge g' w.heap.size with h | h
    · exact h
    · rw [Array.getElem?_eq_none h] at hh; cases hh
theorem own_below {w w' : World} {base : Nat} {e : TypeId} {size : Nat} {v : Value} {n : Nat} {xs : List Value} (h : w.ownsRow base e size v n xs) (hb : Below w.heap.size w w') : w'.ownsRow base e size v n xs :=
  own_keep h fun g hg => hb.block g (own_lt h hg).2
theorem own_drewN {w : World} {base : Nat} {e : TypeId} {size : Nat} {v : Value} {n : Nat} {xs : List Value} (h : w.ownsRow base e size v n xs) (k : Nat) : (w.drewN k).ownsRow base e size v n xs := h
theorem own_alloc {w : World} {base : Nat} {e : TypeId} {size : Nat} {v : Value} {n : Nat} {xs : List Value} (h : w.ownsRow base e size v n xs) (o : Obj) : (w.alloc o).ownsRow base e size v n xs :=
  own_keep h fun g hg => Below.heap_alloc w o g (own_lt h hg).2
theorem own_setCell {w : World} {base : Nat} {e : TypeId} {size : Nat} {v : Value} {n : Nat} {xs : List Value} (h : w.ownsRow base e size v n xs) {a : Addr} (ha : v.ownBlock ≠ some a.block) (u : Value) : (w.setCell a u).ownsRow base e size v n xs :=
  own_keep h fun g hg => Below.heap_setCell w a u g (fun e => ha (by rw [hg, e]))
theorem own_grown {w w' : World} {base : Nat} {e : TypeId} {size : Nat} {v : Value} {n : Nat} {xs : List Value} (h : w.ownsRow base e size v n xs) {row : Option Nat} (hg : w.grownBy w' row) (hr : ∀ g, v.ownBlock = some g → row ≠ some g) : w'.ownsRow base e size v n xs :=
  own_keep h fun g hv => hg.block g (own_lt h hv).2 (fun e => hr g hv e.symm)
theorem heap_lt {w : World} {b : Nat} {o : Obj} (h : w.heap[b]? = some o) : b < w.heap.size := by
  rcases Nat.lt_or_ge b w.heap.size with h' | h'
  · exact h'
  · rw [Array.getElem?_eq_none h'] at h; cases h
theorem heap_set {w : World} {b : Nat} {cs : Array Value} {T : TypeId} {fr : Nat × Nat} (h : w.heap[b]? = some (.cells cs T fr)) (j : Nat) (u : Value) : (w.setCell ⟨b, j, none⟩ u).heap[b]? = some (.cells (cs.setIfInBounds j u) T fr) := by
  simp [World.setCell, Array.getElem?_modify, h]

theorem Scan.lt {w : World} {B b : Nat} {s : List UInt8} {l : List W} {bad : Bool} (h : Scan w B b s l bad) : b < w.heap.size := by
  obtain ⟨_, v, hb, _⟩ := h; exact heap_lt hb
theorem Scan.below {w w' : World} {B b : Nat} {s : List UInt8} {l : List W} {bad : Bool} (h : Scan w B b s l bad) (hb : Below w.heap.size w w') : Scan w' B b s l bad := by
  have hlt := h.lt
  obtain ⟨hB, v, hk, hown, hne⟩ := h
  exact ⟨hB, v, (hb.block b hlt).trans hk, own_below hown hb, hne⟩
theorem Scan.drewN {w : World} {B b : Nat} {s : List UInt8} {l : List W} {bad : Bool} (h : Scan w B b s l bad) (n : Nat) : Scan (w.drewN n) B b s l bad := h
theorem Scan.setS {w : World} {B b : Nat} {s : List UInt8} {l : List W} {bad : Bool} (h : Scan w B b s l bad) (s' : List UInt8) : Scan (w.setCell ⟨b, 0, none⟩ (.string ⟨s'.toArray⟩)) B b s' l bad := by
  obtain ⟨hB, v, hk, hown, hne⟩ := h
  exact ⟨hB, v, heap_set hk 0 _, own_setCell hown hne _, hne⟩
theorem Scan.setBad {w : World} {B b : Nat} {s : List UInt8} {l : List W} {bad : Bool} (h : Scan w B b s l bad) (bad' : Bool) : Scan (w.setCell ⟨b, 2, none⟩ (.bool bad')) B b s l bad' := by
  obtain ⟨hB, v, hk, hown, hne⟩ := h
  exact ⟨hB, v, heap_set hk 2 _, own_setCell hown hne _, hne⟩
/-- the words grown by one, and stored -/
theorem Scan.put {w' : World} {B b : Nat} {s : List UInt8} {l : List W} {bad : Bool} {v : Value} {g n cap : Nat} (x : W) (hB : B ≤ b)
    (hk : w'.heap[b]? = some (.cells #[.string ⟨s.toArray⟩, v, .bool bad] 86 (0, 0)))
    (hown : w'.ownsRow B 62 2 (.slice (some ⟨g, 0, none⟩) n cap) n (wcells l ++ [.string ⟨x.s.toArray⟩, .bool x.qd])) (hn : n = l.length + 1) :
    Scan (w'.setCell ⟨b, 1, none⟩ (.slice (some ⟨g, 0, none⟩) n cap)) B b s (l ++ [x]) bad := by
  have hne : (Value.slice (some ⟨g, 0, none⟩) n cap).ownBlock ≠ some b := by
    intro e
    rcases hown with ⟨_, ⟨hv, _⟩ | ⟨g', cap', cur, hv, _, hh, _⟩⟩
    · cases hv
    · have h1 : g = g' := by injection hv with h1; injection h1 with h1; injection h1
      subst h1
      have h2 : g = b := by simpa [Value.ownBlock] using e
      subst h2
      rw [hk] at hh
      injection hh with hh
      injection hh with _ ht
      exact absurd ht (by decide)
  refine ⟨hB, _, heap_set hk 1 _, ?_, hne⟩
  have h2 : wcells (l ++ [x]) = wcells l ++ [.string ⟨x.s.toArray⟩, .bool x.qd] := by rw [wcells_append]; rfl
  rw [h2, List.length_append]
  subst hn
  exact own_setCell hown hne _

/-- 'string(out)' of a row of the call's own -/
theorem own_string {w : World} {base : Nat} {v : Value} {l : List UInt8} (h : w.ownsRow base 5 1 v l.length (bcells l)) : (convert 72 9 v).run Tryz.prog w = .ok (.string ⟨l.toArray⟩) w := by
  rcases h with ⟨_, ⟨hv, hn⟩ | ⟨g, cap, cur, hv, hb, hg, hc1, hc2, hc3, hx⟩⟩
  · have : l = [] := List.eq_nil_of_length_eq_zero hn
    subst this
    rw [hv]
    exact run_convert_bytes_nil (P := Tryz.prog) w 72 5 Tryz.underlying72 Tryz.underlying5 0 0 9 Tryz.underlying9
  · rw [hv]
    refine run_convert_bytes_back (P := Tryz.prog) w 72 9 5 ⟨g, 0, none⟩ cap l Tryz.underlying72 Tryz.underlying5 Tryz.underlying9 ?_
    intro j hj
    have hadd : (⟨g, 0, none⟩ : Addr).add j = ⟨g, j, none⟩ := by unfold Addr.add; split <;> simp_all
    rw [hadd, Lib.cell_of_heap hg]
    have h1 : (bcells l)[j]? = some (.int .u8 l[j].toNat) := by unfold bcells; rw [List.getElem?_map, List.getElem?_eq_getElem hj]; rfl
    rw [← hx, List.getElem?_take] at h1
    split at h1
    · simpa using h1
    · cases h1

theorem bcells_snoc (l : List UInt8) (c : UInt8) : bcells (l ++ [c]) = bcells l ++ [.int .u8 c.toNat] := by unfold bcells; rw [List.map_append]; rfl

/-- rows of two kinds are two rows -/
theorem own_ne {w : World} {b1 b2 : Nat} {e1 e2 : TypeId} {s1 s2 : Nat} {v1 v2 : Value} {n1 n2 : Nat} {x1 x2 : List Value} (h1 : w.ownsRow b1 e1 s1 v1 n1 x1) (h2 : w.ownsRow b2 e2 s2 v2 n2 x2) (he : e1 ≠ e2) :
    ∀ g, v1.ownBlock = some g → v2.ownBlock ≠ some g := by
  intro g hg1 hg2
  rcases h1 with ⟨_, ⟨hv, _⟩ | ⟨g', cap, cur, hv, _, hh, _⟩⟩
  · rw [hv] at hg1; cases hg1
  · rcases h2 with ⟨_, ⟨hv2, _⟩ | ⟨g2, cap2, cur2, hv2, _, hh2, _⟩⟩
    · rw [hv2] at hg2; cases hg2
    · rw [hv] at hg1; rw [hv2] at hg2
      obtain rfl : g' = g := by simpa [Value.ownBlock] using hg1
      obtain rfl : g2 = g' := by simpa [Value.ownBlock] using hg2
      rw [hh] at hh2
      injection hh2 with hh2
      injection hh2 with _ ht
      exact he ht
/-- what a region reads that lays a word behind the others: said so that the last store keeps it -/
def wordsOf (b : Nat) (w : World) : Value := (w.cell? ⟨b, 1, none⟩).getD undef
def Big (N b : Nat) (S : Value) (bad : Bool) (vo : Value) (out : List UInt8) (w : World) : Prop :=
  w.heap[b]? = some (.cells #[S, wordsOf b w, .bool bad] 86 (0, 0)) ∧ w.ownsRow N 5 1 vo out.length (bcells out)
theorem wordsOf_eq {w : World} {b : Nat} {S v x : Value} {t : TypeId} (h : w.heap[b]? = some (.cells #[S, v, x] t (0, 0))) : wordsOf b w = v := by
  unfold wordsOf; rw [Lib.cell_of_heap h]; rfl
section
variable {N b : Nat} {S : Value} {bad : Bool} {vo : Value} {out : List UInt8} {w : World}
theorem Big.mk {v : Value} (h : w.heap[b]? = some (.cells #[S, v, .bool bad] 86 (0, 0))) (ho : w.ownsRow N 5 1 vo out.length (bcells out)) : Big N b S bad vo out w :=
  ⟨by rw [wordsOf_eq h]; exact h, ho⟩
theorem Big.all (h : Big N b S bad vo out w) : w.cell? ⟨b, 1, none⟩ = some (wordsOf b w) ∧ w.frozen? ⟨b, 1, none⟩ = false ∧ (convert 72 9 vo).run Tryz.prog w = .ok (.string ⟨out.toArray⟩) w ∧ Hid (Big N b S bad vo out w) :=
  ⟨by rw [Lib.cell_of_heap h.1]; rfl, Lib.frozen_of_heap h.1 1, own_string h.2, h⟩
theorem Big.drew (h : Big N b S bad vo out w) : Big N b S bad vo out w.drew := h
theorem Big.alloc (h : Big N b S bad vo out w) (o : Obj) : Big N b S bad vo out (w.alloc o) :=
  Big.mk ((Below.heap_alloc w o b (heap_lt h.1)).trans h.1) (own_alloc h.2 o)
theorem Big.grown {w' : World} {row : Option Nat} (h : Big N b S bad vo out w) (hg : w.grownBy w' row) (hne : row ≠ some b) (hr : ∀ g, vo.ownBlock = some g → row ≠ some g) : Big N b S bad vo out w' :=
  Big.mk ((hg.block b (heap_lt h.1) (Ne.symm hne)).trans h.1) (own_grown h.2 hg hr)
theorem Big.store (h : Big N b S bad vo out w) (hb : vo.ownBlock ≠ some b) (u : Value) : Big N b S bad vo out (w.setCell ⟨b, 1, none⟩ u) :=
  Big.mk (v := u) (heap_set h.1 1 u) (own_setCell h.2 hb u)
end
theorem after_of {w : World} {B b : Nat} {l : List W} {out t r : List UInt8} (h : (if stopsB t = true then some (out, t) else none) = qscan [] r) (hs : Scan w B b t (l ++ [⟨out, true⟩]) (!stopsB t)) : After w B b l (qscan [] r) := by
  rw [← h]
  cases hc : stopsB t with
  | true => rw [hc] at hs; exact hs
  | false => rw [hc] at hs; exact ⟨t, _, hs, by simp⟩
theorem tail_cut (c : UInt8) (t : List UInt8) (n : Nat) : (List.take (t.length + 1 - n) (List.drop n (c :: t))).tail = t.drop n := by
  rw [List.take_of_length_le (by simp), List.tail_drop]; simp
theorem below_app {N : Nat} {w wr w1 : World} {row : Option Nat} {o : Obj} {k : Nat} (h : Below N w wr) (hN : N ≤ wr.heap.size) (hg : ((wr.drewN k).alloc o).grownBy w1 row) (hr : ∀ g, row = some g → N ≤ g) : Below N w w1 :=
  ((bdrew h k).alloc hN o).grown hg (by simp; omega) hr
set_option maxHeartbeats 1000000 in
set_option maxRecDepth 100000 in
theorem quoted_any (B b : Nat) (r : List UInt8) (l : List W) (w : World) (hs : Scan w B b (34 :: r) l false) (hB : B ≤ w.heap.size) (hr : r.length ≤ 1000) (hl : l.length ≤ 1000) :
    Calls Tryz.prog 40 #[.pointer (some ⟨b, 0, none⟩)] w fun e w' => e = .returned (.tuple #[]) ∧ Below B w w' ∧ After w' B b l (qscan [] r) := by
  obtain ⟨i0, hi0, hz0, hz1, hz2⟩ := info_parts infoWord
  obtain ⟨j0, hj0, hy0, hy1, hy2⟩ := info_parts infoByte
  have hlt := hs.lt
  have c0 : w.cell? ⟨b, 0, none⟩ = some (.string ⟨(34 :: r).toArray⟩) := by
    obtain ⟨_, v, hblk, _⟩ := hs
    rw [Lib.cell_of_heap hblk]; rfl
  have HS := Lib.hid hs
  clear hs
  have HI := Lib.hid hi0; have HJ := Lib.hid hj0
  have HI1 := Lib.hid hz0; have HI2 := Lib.hid hz1; have HI3 := Lib.hid hz2
  have HJ1 := Lib.hid hy0; have HJ2 := Lib.hid hy1; have HJ3 := Lib.hid hy2
  clear hi0 hz0 hz1 hz2 hj0 hy0 hy1 hy2
  go_enter Tryz.func40, Tryz.ntmps40
  go_wp2_with fail
  clear c0
  go_loopg [2, 3, 4, 5] r.length (fun g vo vs _ _ wr => ∃ out t, g = t.length ∧ vs = .string ⟨t.toArray⟩ ∧ qscan out t = qscan [] r ∧ out.length + t.length ≤ r.length ∧ wr.ownsRow w.heap.size 5 1 vo out.length (bcells out) ∧ Below w.heap.size w wr)
  case atStart =>
    exact ⟨[], r, rfl, rfl, rfl, by simp, ⟨rfl, .inl ⟨rfl, rfl⟩⟩, Below.refl _ _⟩
  case round =>
    obtain ⟨out, t, rfl, rfl, hq, hle, hown, hbel⟩ := hrel
    have hS : Scan wr B b (34 :: r) l false := HS.out.below hbel
    have hlt' : b < wr.heap.size := hS.lt
    have HO := Lib.hid hown
    have HB := Lib.hid hbel
    have HQ := Lib.hid hq
    clear hown hbel hq
    obtain ⟨hBb, v, hblk, hvown, hvne⟩ := hS
    have c0 : wr.cell? ⟨b, 0, none⟩ = some (.string ⟨(34 :: r).toArray⟩) := by rw [Lib.cell_of_heap hblk]; rfl
    have c1 : wr.cell? ⟨b, 1, none⟩ = some v := by rw [Lib.cell_of_heap hblk]; rfl
    have c2 : wr.cell? ⟨b, 2, none⟩ = some (.bool false) := by rw [Lib.cell_of_heap hblk]; rfl
    have f0 : wr.frozen? ⟨b, 0, none⟩ = false := Lib.frozen_of_heap hblk 0
    have f2 : wr.frozen? ⟨b, 2, none⟩ = false := Lib.frozen_of_heap hblk 2
    have HSr := Lib.hid (show Scan wr B b (34 :: r) l false from ⟨hBb, v, hblk, hvown, hvne⟩)
    have HV := Lib.hid hvown
    have HVN := Lib.hid hvne
    have HK := Lib.hid hblk
    clear hblk hvown hvne
    obtain rfl | ⟨c, t, rfl⟩ : t = [] ∨ ∃ c t', t = c :: t' := by cases t <;> simp
    · clear c0 c1
      go_wp2
      go_end0
      refine ⟨rfl, HB.out.mono hB |>.setCell (p := ⟨b, 2, none⟩) hBb _, ?_⟩
      have h0 : qscan [] r = none := by rw [← HQ.out]; rfl
      rw [h0]
      exact ⟨_, _, HSr.out.setBad true, by omega⟩
    simp only [List.length_cons] at hle
    by_cases h1 : c = 34
    · subst h1
      have HSt := Lib.hid (HSr.out.setS t)
      have HBt := Lib.hid (show Below B w (wr.setCell ⟨b, 0, none⟩ (.string ⟨t.toArray⟩)) from (HB.out.mono hB).setCell (p := ⟨b, 0, none⟩) hBb _)
      have hob : u2.ownBlock ≠ some b := fun e => by have := (own_lt HO.out e).1; omega
      have HOt := Lib.hid (show (wr.setCell ⟨b, 0, none⟩ (.string ⟨t.toArray⟩)).ownsRow w.heap.size 5 1 u2 out.length (bcells out) from own_setCell HO.out hob _)
      have HOB := Lib.hid hob
      clear hob
      go_upto_region 8 with fail
      go_cut [2, 3] (fun vo vs wx => vo = u2 ∧ Scan wx B b t l (!stopsB t) ∧ wx.ownsRow w.heap.size 5 1 u2 out.length (bcells out) ∧ Below B w wx)
      case first =>
        obtain rfl | ⟨d, t, rfl⟩ : t = [] ∨ ∃ d t', t = d :: t' := by cases t <;> simp
        · go_wp2_with fail
          go_meet
          exact ⟨rfl, HSt.out.setBad false, own_setCell HOt.out HOB.out _, HBt.out.setCell (p := ⟨b, 2, none⟩) hBb _⟩
        · have hd : (d.toNat : Int) ≤ 255 := by have := d.toNat_lt; omega
          go_wp2_with fail
          refine (hasRune_any _ _).mono ?_
          rintro e w' ⟨rfl, hb2⟩
          have hS2 := HSt.out.below hb2
          have hO2 := own_below HOt.out hb2
          have hB2 : Below B w w' := HBt.out.trans (hb2.mono (by simp [World.setCell]; omega))
          obtain ⟨c2', f2'⟩ : w'.cell? ⟨b, 2, none⟩ = some (.bool false) ∧ w'.frozen? ⟨b, 2, none⟩ = false := by
            obtain ⟨_, v2, hk2, _⟩ := hS2
            exact ⟨by rw [Lib.cell_of_heap hk2]; rfl, Lib.frozen_of_heap hk2 2⟩
          have H1 := Lib.hid (hS2.setBad (!isStop d))
          have H2 := Lib.hid (own_setCell (a := ⟨b, 2, none⟩) hO2 HOB.out (.bool (!isStop d)))
          have H3 := Lib.hid (hB2.setCell (p := ⟨b, 2, none⟩) hBb (.bool (!isStop d)))
          clear hS2 hO2 hB2 hb2
          go_wp2_with fail
          go_meet
          exact ⟨rfl, H1.out, H2.out, H3.out⟩
      case rest =>
        obtain ⟨rfl, hS, ho, hb⟩ := hcut
        obtain ⟨_, v3, hk3, hown3, hne3⟩ := hS
        have HG := Lib.hid (Big.mk hk3 ho)
        have HX := Lib.hid (show wordsOf b wc.drew = v3 from wordsOf_eq (w := wc.drew) hk3)
        have HV3 := Lib.hid hown3
        have HR := Lib.hid (own_ne ho hown3 (by decide))
        have HN3 := Lib.hid hne3
        have HB3 := Lib.hid hb
        have hm1 : l.length + 1 ≤ maxLen := by unfold maxLen; omega
        have hm2 : (l.length + 1) * 24 ≤ 140737488355328 := by omega
        have hm3 := hb.size
        have hq := HQ.out
        rw [q_cons, if_pos rfl] at hq
        have HF := Lib.hid hq
        have d1 : wc.cell? ⟨b, 1, none⟩ = some v3 := by rw [Lib.cell_of_heap hk3]; rfl
        have hcv0 := own_string ho
        have hcv1 : ∀ o, (convert 72 9 u2).run Tryz.prog (wc.alloc o) = .ok (.string ⟨out.toArray⟩) (wc.alloc o) := fun o => own_string (own_alloc ho o)
        have hcv2 : (convert 72 9 u2).run Tryz.prog wc.drew = .ok (.string ⟨out.toArray⟩) wc.drew := own_string (w := wc.drew) ho
        have hcv3 : ∀ o, (convert 72 9 u2).run Tryz.prog (wc.alloc o).drew = .ok (.string ⟨out.toArray⟩) (wc.alloc o).drew := fun o => own_string (w := (wc.alloc o).drew) (own_alloc ho o)
        have hlt3 := heap_lt hk3
        have HK3 := Lib.hid hk3
        clear hk3 hown3 hne3 ho hb hq c0 c1 c2 f0 f2
        go_wp2_with fail
        go_region_law (refine step_append_lies _ (by rfl) _ _ _ (by rfl) B 62 i0 _ 2 24 Tryz.underlying57 HI.out HI1.out HI2.out HI3.out rfl (by omega) v3 l.length (wcells l) (by rfl) (by exact own_alloc HV3.out _) ⟨wc.heap.size, 0, none⟩ 1 1 [.string ⟨out.toArray⟩, .bool true] (by rfl) (by rfl) (World.news_of_block (cs := #[.string ⟨out.toArray⟩, .bool true]) (t := 62) (fr := (0, 0)) (heap_alloc_new _ _)) (by simp [Value.oneCell']) (by omega) hm1 hm2 (by simp; omega) (wc.heap.size + 1) (by simp) ?_; intro gg cap w1 hown1 hgrow hat hlt1; have hk1 := (hgrow.block b (by simp; omega) (Ne.symm HN3.out)).trans ((Below.heap_alloc wc _ b hlt3).trans HK3.out); have e1 := Lib.cell_of_heap hk1 1; have e2 := Lib.frozen_of_heap hk1 1; have HK1 := Lib.hid hk1; clear hk1)
        all_goals
          go_wp2
          refine bodyPost_ret (results_none rfl _ _ _) rfl ?_
          refine ⟨rfl, ((((HB3.out.alloc (by omega) _).drew).grown hgrow (by simp; omega) (fun g hg => (own_lt HV3.out hg).1)).setCell (p := ⟨b, 1, none⟩) hBb _), ?_⟩
          exact after_of HF.out (Scan.put ⟨out, true⟩ hBb HK1.out hown1 rfl)
    have g1 : ((c.toNat : Int) == 34) = false := byte_ne (k := 34) h1
    by_cases h2 : c = 92
    · subst h2
      clear h1 g1
      cases he : escB t with
      | none =>
        have e1 : escX t = 0 ∧ escN t = 0 := by simp [escX, escN, he]
        have H1 := escape_any t (by omega)
        rw [e1.1, e1.2] at H1
        have H1' := Lib.hid H1
        have h0 : qscan [] r = none := by rw [← HQ.out, q_cons]; simp [he]
        have H0 := Lib.hid h0
        clear e1 H1 he h0 c0 c1
        go_wp2_with (go_at_call 59; refine (H1'.out _).mono ?_; rintro e w' ⟨rfl, n, rfl⟩)
        refine bodyPost_ret (results_none rfl _ _ _) rfl ?_
        refine ⟨rfl, (bdrew (HB.out.mono hB) _).setCell (p := ⟨b, 2, none⟩) hBb _, ?_⟩
        rw [H0.out]
        exact ⟨_, _, (HSr.out.drewN n).setBad true, by omega⟩
      | some p =>
        obtain ⟨x, n⟩ := p
        have e1 : escX t = x.toNat ∧ escN t = n := by simp [escX, escN, he]
        have hp := esc_pos he
        have H1 := escape_any t (by omega)
        rw [e1.1, e1.2] at H1
        have H1' := Lib.hid H1
        have h0 : qscan (out ++ [x]) (t.drop n) = qscan [] r := by rw [← HQ.out, q_cons]; simp [he]
        have H0 := Lib.hid h0
        have n0 : ((n : Int) == 0) = false := by rw [beq_eq_false_iff_ne]; omega
        have hn0 : (0 : Int) ≤ (n : Int) := by omega
        have hn1 : (n : Int) ≤ (t.length : Int) + 1 := by omega
        clear e1 H1 he h0 c0 c1 c2 f0 f2
        go_wp2_with (go_at_call 59; refine (H1'.out _).mono ?_; rintro e w' ⟨rfl, m, rfl⟩)
        have hm1 : out.length + 1 ≤ maxLen := by unfold maxLen; omega
        have hm2 : (out.length + 1) * 1 ≤ 140737488355328 := by omega
        have hm3 := HB.out.size
        go_region_held3 (fun _ => True) (first | trivial)
          ((refine step_append_lies _ (by rfl) _ _ _ (by rfl) w.heap.size 5 j0 _ 1 1 Tryz.underlying72 HJ.out HJ1.out HJ2.out HJ3.out rfl (by omega) u2 out.length (bcells out) (by rfl) (by exact own_alloc HO.out _) ⟨wr.heap.size, 0, none⟩ 1 1 [.int .u8 x.toNat] (by rfl) (by rfl) (World.news_of_block (cs := #[.int .u8 x.toNat]) (t := 5) (fr := (0, 0)) (heap_alloc_new _ _)) (by simp [Value.oneCell']) (by omega) hm1 hm2 (by simp; omega) (wr.heap.size + 1) (by simp) ?_; intro gg cap w1 hown1 hgrow hat hlt1))
        go_wp2
        go_roundg (t.drop n).length
        case measure => simp only [List.length_drop, List.length_cons]; omega
        case rel =>
          refine ⟨out ++ [x], t.drop n, rfl, by rw [tail_cut], H0.out, ?_, ?_, ?_⟩
          · simp only [List.length_append, List.length_cons, List.length_nil, List.length_drop]; omega
          · rw [bcells_snoc, List.length_append]; exact hown1
          · exact below_app HB.out hm3 hgrow fun g hg => (own_lt HO.out hg).1
    have g2 : ((c.toNat : Int) == 92) = false := byte_ne (k := 92) h2
    have h0 : qscan (out ++ [c]) t = qscan [] r := by rw [← HQ.out, q_cons]; simp [h1, h2]
    have H0 := Lib.hid h0
    have hm1 : out.length + 1 ≤ maxLen := by unfold maxLen; omega
    have hm2 : (out.length + 1) * 1 ≤ 140737488355328 := by omega
    have hm3 := HB.out.size
    clear h0 h1 h2 c0 c1 c2 f0 f2
    go_wp2_with (at_builtin; refine wpList_append_lies _ rfl _ _ _ rfl w.heap.size 5 j0 _ 1 1 Tryz.underlying72 HJ.out HJ1.out HJ2.out HJ3.out rfl (by omega) u2 out.length (bcells out) rfl (by exact own_alloc HO.out _) ⟨wr.heap.size, 0, none⟩ 1 1 [.int .u8 c.toNat] rfl rfl (World.news_of_block (cs := #[.int .u8 c.toNat]) (t := 5) (fr := (0, 0)) (heap_alloc_new _ _)) (by simp [Value.oneCell']) (by omega) hm1 hm2 (by simp; omega) (wr.heap.size + 1) (by simp) ?_; intro gg cap w1 hown1 hgrow hat hlt1)
    go_roundg t.length
    case measure => simp
    case rel =>
      refine ⟨out ++ [c], t, rfl, rfl, H0.out, ?_, ?_, ?_⟩
      · simp only [List.length_append, List.length_cons, List.length_nil]; omega
      · rw [bcells_snoc, List.length_append]; exact hown1
      · exact below_app (k := 0) HB.out hm3 hgrow fun g hg => (own_lt HO.out hg).1
end Go.Proofs.YtnkhiaikdmpimaaGreatDoor
