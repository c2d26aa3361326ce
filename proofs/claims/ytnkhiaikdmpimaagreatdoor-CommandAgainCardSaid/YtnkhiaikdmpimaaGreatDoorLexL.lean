/- strings.Builder's writers, WITH A FRAME THAT KEEPS ROWS OF BYTES, TOO (what a range over []byte(s) reads; what Write is handed). -/
import Derived.Test.YtnkhiaikdmpimaaGreatDoorLexD
import Derived.Test.YtnkhiaikdmpimaaGreatDoorLexE
import Derived.Test.YtnkhiaikdmpimaaGreatDoorBuilderLay
namespace Go.Proofs.YtnkhiaikdmpimaaGreatDoor
open Go.RowKit Lx

/-- a builder at block b that holds bytes, and blocks that it does not touch -/
def Bld (w : World) (B b : Nat) (K : Nat → Obj → Prop) (p : Value) (bs : List Value) : Prop :=
  B ≤ b ∧ B ≤ w.heap.size ∧ ∃ v, w.heap[b]? = some (.cells #[p, v] 74 (0, 0)) ∧ w.ownsRow B 5 1 v bs.length bs ∧ v.ownBlock ≠ some b ∧ ∀ g x, K g x → w.heap[g]? = some x ∧ g ≠ b ∧ v.ownBlock ≠ some g
section
variable {w w' : World} {B b : Nat} {K : Nat → Obj → Prop} {p : Value} {bs : List Value}
theorem Bld.less {K' : Nat → Obj → Prop} (h : Bld w B b K p bs) (hk : ∀ g x, K' g x → K g x) : Bld w B b K' p bs := by
  obtain ⟨h1, h2, v, h3, h4, h5, h6⟩ := h
  exact ⟨h1, h2, v, h3, h4, h5, fun g x hg => h6 g x (hk g x hg)⟩
/-- one block more that is kept: a new one -/
theorem Bld.more (h : Bld w B b K p bs) (hb : Below w.heap.size w w') {g : Nat} {x : Obj} (hg : w.heap.size ≤ g) (hx : w'.heap[g]? = some x) : Bld w' B b (fun k y => K k y ∨ k = g ∧ y = x) p bs := by
  obtain ⟨h1, h2, v, h3, h4, h5, h6⟩ := h
  have hlt := heap_lt h3
  refine ⟨h1, by have := hb.size; omega, v, (hb.block b hlt).trans h3, own_below h4 hb, h5, ?_⟩
  rintro k y (hk | ⟨rfl, rfl⟩)
  · have := h6 k y hk
    exact ⟨(hb.block k (heap_lt this.1)).trans this.1, this.2⟩
  · exact ⟨hx, by omega, fun e => by have := (own_lt h4 e).2; omega⟩
theorem Bld.below (h : Bld w B b K p bs) (hb : Below w.heap.size w w') : Bld w' B b K p bs := by
  obtain ⟨h1, h2, v, h3, h4, h5, h6⟩ := h
  have hlt := heap_lt h3
  refine ⟨h1, by have := hb.size; omega, v, (hb.block b hlt).trans h3, own_below h4 hb, h5, ?_⟩
  intro k y hk
  have := h6 k y hk
  exact ⟨(hb.block k (heap_lt this.1)).trans this.1, this.2⟩
theorem Bld.lt (h : Bld w B b K p bs) : b < w.heap.size := by
  obtain ⟨_, _, v, h3, _⟩ := h; exact heap_lt h3
theorem Bld.used (h : Bld w B b K p bs) (q : Value) : Bld (w.setCell ⟨b, 0, none⟩ q) B b K q bs := by
  obtain ⟨h1, h2, v, h3, h4, h5, h6⟩ := h
  refine ⟨h1, by simpa [World.setCell] using h2, v, heap_set h3 0 q, own_setCell h4 h5 _, h5, ?_⟩
  intro k y hk
  have := h6 k y hk
  exact ⟨(Below.heap_setCell w ⟨b, 0, none⟩ q k (fun e => this.2.1 e)).trans this.1, this.2⟩
theorem Bld.is (h : Bld w B b K (.pointer none) bs) : Lib.IsBuilder 74 5 B b bs w := by
  obtain ⟨h1, h2, v, h3, h4, h5, _⟩ := h
  exact .inl ⟨h1, v, h3, h4, h5⟩
theorem Bld.is' (h : Bld w B b K (.pointer (some ⟨b, 0, none⟩)) bs) : Lib.IsBuilder 74 5 B b bs w := by
  obtain ⟨h1, h2, v, h3, h4, h5, _⟩ := h
  exact .inr ⟨h1, v, h3, h4, h5⟩
end
/-- a builder, written or not -/
def IsBld (w : World) (B b : Nat) (K : Nat → Obj → Prop) (bs : List Value) : Prop := Bld w B b K (.pointer none) bs ∨ Bld w B b K (.pointer (some ⟨b, 0, none⟩)) bs
theorem IsBld.is {w : World} {B b : Nat} {K : Nat → Obj → Prop} {bs : List Value} (h : IsBld w B b K bs) : Lib.IsBuilder 74 5 B b bs w := by
  rcases h with h | h
  · exact h.is
  · exact h.is'

theorem copyCheck_b (B b : Nat) (K : Nat → Obj → Prop) (bs : List Value) (w : World) (h : IsBld w B b K bs) :
    Calls Tryz.prog 52 #[.pointer (some ⟨b, 0, none⟩)] w fun e w' => e = .returned (.tuple #[]) ∧ Bld w' B b K (.pointer (some ⟨b, 0, none⟩)) bs ∧ Below B w w' := by
  rcases h with h | h
  · have h' := h.is
    have h'' : Lib.BuilderAt 74 5 B b (.pointer none) bs w := by
      obtain ⟨h1, h2, v, h3, h4, h5, _⟩ := h
      exact ⟨h1, v, h3, h4, h5⟩
    refine (Any.Builder_copyCheck_fresh Tryz.lays240 Tryz.Builder_X72_240 b w h''.cell0 h''.shape h''.frozen0).mono ?_
    rintro e w' ⟨rfl, rfl⟩
    exact ⟨rfl, h.used _, (Below.refl B w).setCell (p := ⟨b, 0, none⟩) h.1 _⟩
  · have h'' : Lib.BuilderAt 74 5 B b (.pointer (some ⟨b, 0, none⟩)) bs w := by
      obtain ⟨h1, h2, v, h3, h4, h5, _⟩ := h
      exact ⟨h1, v, h3, h4, h5⟩
    refine (Any.Builder_copyCheck_used Tryz.lays240 Tryz.Builder_X72_240 b w h''.cell0).mono ?_
    rintro e w' ⟨rfl, rfl⟩
    exact ⟨rfl, h, Below.refl B _⟩

/-- the buffer grown, and stored -/
theorem Bld.put {w' : World} {B b : Nat} {K : Nat → Obj → Prop} {p v v' : Value} {bs' : List Value} (hB : B ≤ b) (hBs : B ≤ w'.heap.size)
    (hk : w'.heap[b]? = some (.cells #[p, v] 74 (0, 0)))
    (hown : w'.ownsRow B 5 1 v' bs'.length bs') (hK : ∀ g x, K g x → w'.heap[g]? = some x ∧ g ≠ b ∧ v'.ownBlock ≠ some g) :
    Bld (w'.setCell ⟨b, 1, none⟩ v') B b K p bs' := by
  have hne : v'.ownBlock ≠ some b := by
    intro e
    rcases hown with ⟨_, ⟨hv, _⟩ | ⟨g', cap', cur, hv, _, hh, _⟩⟩
    · rw [hv] at e; cases e
    · rw [hv] at e
      have h2 : g' = b := by simpa [Value.ownBlock] using e
      subst h2
      rw [hk] at hh
      injection hh with hh
      injection hh with _ ht
      exact absurd ht (by decide)
  refine ⟨hB, by simpa [World.setCell] using hBs, v', heap_set hk 1 _, own_setCell hown hne _, hne, ?_⟩
  intro k y hk'
  have := hK k y hk'
  exact ⟨(Below.heap_setCell w' ⟨b, 1, none⟩ v' k (fun e => this.2.1 e)).trans this.1, this.2⟩

section
variable {P : Program} (w : World)
/-- bytes of a string behind a row of one's own that is not empty: where the new row lies -/
theorem run_append_string_lies (base : Nat) (t u ty e : TypeId) (i : TypeInfo) (ht : P.underlying t = some (.slice e)) (hu : P.underlying u = some .string) (hi : P.info? e = some i) (hz : i.zero = some (.int .u8 0))
    (hsize : i.size = 1) (hby : i.bytes = 1)
    (v : Value) (n : Nat) (xs : List Value) (hown : w.ownsRow base e 1 v n xs) (s : ByteArray) (hn : 0 < n)
    (h63 : n + s.size ≤ maxLen) (hbytes : n + s.size ≤ 140737488355328) (hbase : base ≤ w.heap.size) :
    ∃ v' w', (Builtin.append_ #[t, u] ty #[v, .string s]).run P w = .ok v' w' ∧ w'.ownsRow base e 1 v' (n + s.size) (xs ++ Lib.strCells s) ∧ w.grownBy w' v.ownBlock ∧
      (v'.ownBlock = v.ownBlock ∨ v'.ownBlock = some w.heap.size) := by
  obtain ⟨v', w', hr, h2, h3, _⟩ := Lib.run_append_own_string (P := P) w base t u ty e i ht hu hi hz hsize hby v n xs hown s h63 hbytes hbase
  refine ⟨v', w', hr, h2, h3, ?_⟩
  have hsmall : n + s.size ≤ 9223372036854775807 := by simp only [maxLen] at h63; omega
  rcases hown.2 with ⟨_, h0⟩ | ⟨g, cap, cur, rfl, hbg, hg, hnc, hcm, hcs, htake⟩
  · omega
  · by_cases hroom : n + s.size ≤ cap
    · have hcs' : cur.size = cap := by simpa using hcs
      have hr2 := Lib.run_append_room_string (P := P) w t u ty e i ht hu hi hsize g n cap cur hg s hroom (by omega)
      rw [hr] at hr2
      injection hr2 with h1 _
      exact .inl (by rw [h1]; rfl)
    · have holds : ∀ j u, xs[j]? = some u → w.cell? ((⟨g, 0, none⟩ : Addr).add j) = some u := hown.cells (g := g) rfl
      have hr2 := Lib.run_append_grow_string (P := P) w t u ty e i (.int .u8 0) ht hu hi hz ⟨g, 0, none⟩ n cap xs (by rw [hsize]; simpa using hown.1) holds s (by omega) (by omega) (by rw [hby]; exact growslice_fits (by omega) (by omega))
      rw [hr] at hr2
      injection hr2 with h1 _
      exact .inr (by rw [h1]; rfl)
theorem wpList_append_string_lies {ops : Array Oper} {rest : List Oper} {o : Oper} {a : Act} {Q : Exit → Act → World → Prop} (hgd : o.guard = none) (sl x : Operand) (t u : TypeId)
    (ho : o.op = .call { callee := .builtin .append, args := #[sl, x], argTypes := #[t, u] })
    (base : Nat) (e : TypeId) (i : TypeInfo) (ht : P.underlying t = some (.slice e)) (hu : P.underlying u = some .string) (hi : P.info? e = some i) (hz : i.zero = some (.int .u8 0))
    (hsize : i.size = 1) (hby : i.bytes = 1)
    (v : Value) (n : Nat) (xs : List Value) (hs : a.eval sl = v) (hown : w.ownsRow base e 1 v n xs) (s : ByteArray) (hx : a.eval x = .string s) (hn : 0 < n)
    (h63 : n + s.size ≤ maxLen) (hbytes : n + s.size ≤ 140737488355328) (hbase : base ≤ w.heap.size)
    (h : ∀ v' w', w'.ownsRow base e 1 v' (n + s.size) (xs ++ Lib.strCells s) → w.grownBy w' v.ownBlock → (v'.ownBlock = v.ownBlock ∨ v'.ownBlock = some w.heap.size) → wpList P ops Q rest (a.put o.dst v') w') : wpList P ops Q (o :: rest) a w := by
  refine wpList_plain hgd fun K hK => ?_
  obtain ⟨v', w', hr, h2, h3, h4⟩ := run_append_string_lies (P := P) w base t u o.type e i ht hu hi hz hsize hby v n xs hown s hn h63 hbytes hbase
  unfold Oper.wp execOp
  simp only [ho, resolve, invoke, builtin, Sem.run_bind, Sem.run_pure, Result.andThen_ok, List.map_toArray, List.map_cons, List.map_nil, hs, hx, hr]
  exact hK _ _ (h v' w' h2 h3 h4)
end

set_option maxHeartbeats 1000000 in
set_option maxRecDepth 100000 in
theorem write_b (B b g m : Nat) (c : Nat) (cur : Array Value) (fz : Nat × Nat) (K : Nat → Obj → Prop) (bs : List Value) (w : World) (h : IsBld w B b K bs) (news : List Value) (hm : news.length = m) (h1 : 0 < m)
    (hg : K g (.cells cur 5 fz)) (hc : cur.toList.take m = news) (hone : ∀ u ∈ news, u.oneCell' = true) (hlen : bs.length + m ≤ 1000000) :
    Calls Tryz.prog 48 #[.pointer (some ⟨b, 0, none⟩), .slice (some ⟨g, 0, none⟩) m c] w fun e w' => e = .returned (.tuple #[.int .i64 m, .nilIface]) ∧ Bld w' B b K (.pointer (some ⟨b, 0, none⟩)) (bs ++ news) ∧ Below B w w' := by
  obtain ⟨i0, hi, hz0, hz1, hz2⟩ := info_parts infoByte
  have H := Lib.hid (copyCheck_b B b K bs w h)
  clear h
  go_enter Tryz.func48, Tryz.ntmps48
  go_wp2_with (go_at_call 52; refine H.out.mono ?_)
  rintro e w1 ⟨rfl, h1', hb1⟩
  obtain ⟨hB, hBs, v, hbk, hown, hne, hK⟩ := h1'
  have c0 : w1.cell? ⟨b, 0, none⟩ = some (.pointer (some ⟨b, 0, none⟩)) := by rw [Lib.cell_of_heap hbk]; rfl
  have c1 : w1.cell? ⟨b, 1, none⟩ = some v := by rw [Lib.cell_of_heap hbk]; rfl
  have hnews : ∀ j u, news[j]? = some u → w1.cell? ((⟨g, 0, none⟩ : Addr).add j) = some u := by
    intro j u hj
    have hadd : (⟨g, 0, none⟩ : Addr).add j = ⟨g, j, none⟩ := by unfold Addr.add; split <;> simp_all
    rw [hadd, Lib.cell_of_heap (hK g _ hg).1]
    rw [← hc, List.getElem?_take] at hj
    split at hj
    · simpa using hj
    · cases hj
  have HK := Lib.hid hK
  clear hK
  go_wp2_with (at_builtin; refine wpList_append_lies _ rfl _ _ 72 rfl B 5 i0 (.int .u8 0) 1 1 Tryz.underlying72 hi hz0 hz1 hz2 rfl (by decide) _ _ _ rfl hown ⟨g, 0, none⟩ m c news rfl (by omega) hnews hone h1 ?c3 ?c4 hBs _ rfl ?_)
  case c3 => unfold maxLen; omega
  case c4 => omega
  intro g' cap' w2 hown' hgrow hat hlt'
  have hltb : b < w1.heap.size := heap_lt hbk
  have hb2 : w2.heap[b]? = some (.cells #[.pointer (some ⟨b, 0, none⟩), v] 74 (0, 0)) := by
    rw [hgrow.block b hltb (fun e => hne e.symm)]
    exact hbk
  have d1 : w2.cell? ⟨b, 1, none⟩ = some v := by rw [Lib.cell_of_heap hb2]; rfl
  have f1 : w2.frozen? ⟨b, 1, none⟩ = false := Lib.frozen_of_heap hb2 1
  go_wp2
  go_ret2
  refine ⟨rfl, ?_, ?_⟩
  · refine Bld.put (bs' := bs ++ news) hB (by have := hgrow.size; omega) hb2 (by simpa [hm] using hown') ?_
    intro k y hk
    obtain ⟨e1, e2, e3⟩ := HK.out k y hk
    refine ⟨(hgrow.block k (heap_lt e1) (Ne.symm e3)).trans e1, e2, ?_⟩
    intro e
    obtain rfl : g' = k := by simpa [Value.ownBlock] using e
    rcases hat with h | h
    · exact e3 h
    · have := heap_lt e1; omega
  · exact (hb1.grown hgrow hBs (fun k hk => (own_lt hown hk).1)).setCell (p := ⟨b, 1, none⟩) hB _

set_option maxHeartbeats 1000000 in
set_option maxRecDepth 100000 in
theorem writeByte_b (B b : Nat) (c : Int) (K : Nat → Obj → Prop) (bs : List Value) (w : World) (h : IsBld w B b K bs) (hlen : bs.length + 1 ≤ 1000000) :
    Calls Tryz.prog 47 #[.pointer (some ⟨b, 0, none⟩), .int .u8 c] w fun e w' => e = .returned .nilIface ∧ Bld w' B b K (.pointer (some ⟨b, 0, none⟩)) (bs ++ [.int .u8 c]) ∧ Below B w w' := by
  obtain ⟨i0, hi, hz0, hz1, hz2⟩ := info_parts infoByte
  have H := Lib.hid (copyCheck_b B b K bs w h)
  clear h
  go_enter Tryz.func47, Tryz.ntmps47
  go_wp2_with (go_at_call 52; refine H.out.mono ?_)
  rintro e w1 ⟨rfl, h1', hb1⟩
  obtain ⟨hB, hBs, v, hbk, hown, hne, hK⟩ := h1'
  have c0 : w1.cell? ⟨b, 0, none⟩ = some (.pointer (some ⟨b, 0, none⟩)) := by rw [Lib.cell_of_heap hbk]; rfl
  have c1 : w1.cell? ⟨b, 1, none⟩ = some v := by rw [Lib.cell_of_heap hbk]; rfl
  have HK := Lib.hid hK
  clear hK
  go_wp2_with (at_builtin; refine wpList_append_lies _ rfl _ _ 72 rfl B 5 i0 (.int .u8 0) 1 1 Tryz.underlying72 hi hz0 hz1 hz2 rfl (by decide) _ _ _ rfl (own_alloc hown _) ⟨w1.heap.size, 0, none⟩ 1 1 [.int .u8 c] rfl rfl ?c1 (by intro u hu; simp at hu; subst hu; rfl) (by decide) (by unfold maxLen; omega) (by omega) (by simp; omega) _ rfl ?_)
  case c1 =>
    intro j u hj
    match j, hj with
    | 0, hj => simp at hj; subst hj; simp [Addr.add]
  intro g' cap' w2 hown' hgrow hat hlt'
  have hltb : b < w1.heap.size := heap_lt hbk
  have hb2 : w2.heap[b]? = some (.cells #[.pointer (some ⟨b, 0, none⟩), v] 74 (0, 0)) := by
    rw [hgrow.block b (by simp; omega) (fun e => hne e.symm), Below.heap_alloc w1 _ b hltb]
    exact hbk
  have d1 : w2.cell? ⟨b, 1, none⟩ = some v := by rw [Lib.cell_of_heap hb2]; rfl
  have f1 : w2.frozen? ⟨b, 1, none⟩ = false := Lib.frozen_of_heap hb2 1
  go_wp2
  go_ret
  refine ⟨rfl, ?_, ?_⟩
  · refine Bld.put (bs' := bs ++ [.int .u8 c]) hB (by have := hgrow.size; simp at this; omega) hb2 (by simpa using hown') ?_
    intro k y hk
    obtain ⟨e1, e2, e3⟩ := HK.out k y hk
    have hk := heap_lt e1
    refine ⟨(hgrow.block k (by simp; omega) (Ne.symm e3)).trans ((Below.heap_alloc w1 _ k hk).trans e1), e2, ?_⟩
    intro e
    obtain rfl : g' = k := by simpa [Value.ownBlock] using e
    rcases hat with h | h
    · exact e3 h
    · first | omega | (simp at h; omega)
  · exact ((hb1.alloc hBs _).grown hgrow (by simp; omega) (fun k hk => (own_lt hown hk).1)).setCell (p := ⟨b, 1, none⟩) hB _

set_option maxHeartbeats 1000000 in
set_option maxRecDepth 100000 in
theorem writeString_b (B b : Nat) (s : ByteArray) (K : Nat → Obj → Prop) (bs : List Value) (w : World) (h : IsBld w B b K bs) (h1 : 0 < bs.length) (hlen : bs.length + s.size ≤ 1000000) :
    Calls Tryz.prog 34 #[.pointer (some ⟨b, 0, none⟩), .string s] w fun e w' => e = .returned (.tuple #[.int .i64 s.size, .nilIface]) ∧ Bld w' B b K (.pointer (some ⟨b, 0, none⟩)) (bs ++ Lib.strCells s) ∧ Below B w w' := by
  obtain ⟨i0, hi, hz0, hz1, hz2⟩ := info_parts infoByte
  have H := Lib.hid (copyCheck_b B b K bs w h)
  clear h
  go_enter Tryz.func34, Tryz.ntmps34
  go_wp2_with (go_at_call 52; refine H.out.mono ?_)
  rintro e w1 ⟨rfl, h1', hb1⟩
  obtain ⟨hB, hBs, v, hbk, hown, hne, hK⟩ := h1'
  have c0 : w1.cell? ⟨b, 0, none⟩ = some (.pointer (some ⟨b, 0, none⟩)) := by rw [Lib.cell_of_heap hbk]; rfl
  have c1 : w1.cell? ⟨b, 1, none⟩ = some v := by rw [Lib.cell_of_heap hbk]; rfl
  have HK := Lib.hid hK
  clear hK
  go_wp2_with (at_builtin; refine wpList_append_string_lies _ rfl _ _ 72 9 rfl B 5 i0 Tryz.underlying72 Tryz.underlying9 hi hz0 hz1 hz2 _ _ _ rfl hown s rfl h1 ?c3 ?c4 hBs ?_)
  case c3 => unfold maxLen; omega
  case c4 => omega
  intro v' w2 hown' hgrow hat
  have hltb : b < w1.heap.size := heap_lt hbk
  have hb2 : w2.heap[b]? = some (.cells #[.pointer (some ⟨b, 0, none⟩), v] 74 (0, 0)) := by
    rw [hgrow.block b hltb (fun e => hne e.symm)]
    exact hbk
  have d1 : w2.cell? ⟨b, 1, none⟩ = some v := by rw [Lib.cell_of_heap hb2]; rfl
  have f1 : w2.frozen? ⟨b, 1, none⟩ = false := Lib.frozen_of_heap hb2 1
  obtain ⟨ao, n', cap, rfl⟩ : ∃ ao n' cap, v' = .slice ao n' cap := by
    rcases hown'.2 with ⟨hv, _⟩ | ⟨g, cap, cur, hv, _⟩
    · exact ⟨_, _, _, hv⟩
    · exact ⟨_, _, _, hv⟩
  go_wp2
  go_ret2
  refine ⟨rfl, ?_, ?_⟩
  · refine Bld.put (bs' := bs ++ Lib.strCells s) hB (by have := hgrow.size; omega) hb2 (by simpa [Lib.strCells_length] using hown') ?_
    intro k y hk
    obtain ⟨e1, e2, e3⟩ := HK.out k y hk
    refine ⟨(hgrow.block k (heap_lt e1) (Ne.symm e3)).trans e1, e2, ?_⟩
    intro e
    rw [e] at hat
    rcases hat with h | h
    · exact e3 h.symm
    · have := heap_lt e1; injection h with h; omega
  · exact (hb1.grown hgrow hBs (fun k hk => (own_lt hown hk).1)).setCell (p := ⟨b, 1, none⟩) hB _
end Go.Proofs.YtnkhiaikdmpimaaGreatDoor
