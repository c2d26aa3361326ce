/- cauteryref30.names, Text. -/
import Derived.Test.YtnkhiaikdmpimaaGreatDoorCmdD
import Derived.Deep.RegionHeld3
namespace Go.Proofs.YtnkhiaikdmpimaaGreatDoor
open Go.RowKit Lx

theorem kept_one {w0 w1 : World} {p : Addr} {v : Value} (hc : w0.cell? p = some v) (hb : Below w0.heap.size w0 w1) : w1.cell? p = some v :=
  (hb.cell (World.block_lt_of_cell? w0 _ hc)).trans hc
theorem kept_two {w w0 w1 : World} {p : Addr} {v : Value} (hc : w0.cell? p = some v) (h : Below w.heap.size w w0) (hb : Below w0.heap.size w0 w1) : w1.cell? p = some v ∧ Below w.heap.size w w1 :=
  ⟨kept_one hc hb, h.trans (hb.mono h.size)⟩

set_option maxRecDepth 100000 in
theorem names_any (w : World) :
    Calls Tryz.prog 37 #[] w fun e w' => ∃ g, e = .returned (.slice (some ⟨g, 0, none⟩) 5 5) ∧ (∀ j (h : j < 5), w'.cell? ⟨g, j, none⟩ = some (.string ⟨(polNames[j]'h).toArray⟩)) ∧ Below w.heap.size w w' := by
  go_enter Tryz.func37, Tryz.ntmps37
  go_wp2_with fail
  go_ret
  refine ⟨_, rfl, ?_, (Below.refl _ _).alloc (Nat.le_refl _) _⟩
  intro j h
  match j, h with
  | 0, _ => simp [polNames]
  | 1, _ => simp [polNames]
  | 2, _ => simp [polNames]
  | 3, _ => simp [polNames]
  | 4, _ => simp [polNames]

/-- a row of numbers -/
def Arr (w : World) (A : Nat) (l : List Int) : Prop := ∀ j (h : j < l.length), w.cell? ⟨A, j, none⟩ = some (.int .i64 l[j])
theorem Arr.below {w w' : World} {A : Nat} {l : List Int} (h : Arr w A l) (hb : Below w.heap.size w w') : Arr w' A l := fun j hj => kept_one (h j hj) hb
theorem kept_arr {w w0 w1 : World} {A : Nat} {l : List Int} {p : Addr} {v : Value} (ha : Arr w0 A l) (hc : w0.cell? p = some v) (h : Below w.heap.size w w0) (hb : Below w0.heap.size w0 w1) : Arr w1 A l ∧ w1.cell? p = some v ∧ Below w.heap.size w w1 :=
  ⟨ha.below hb, kept_one hc hb, h.trans (hb.mono h.size)⟩
theorem numB_bd {n : Int} (h : numB n = true) : 0 ≤ n ∧ n ≤ 9999 := by
  unfold numB at h; simpa using h
theorem pol_bd {k : Pol} (h : polB k = true) : ∀ x ∈ k.nums, 0 ≤ x ∧ x ≤ 9999 := by
  unfold polB at h
  simp only [Bool.and_eq_true] at h
  intro x hx
  simp only [Pol.nums, List.mem_cons, List.not_mem_nil, or_false] at hx
  rcases hx with rfl | rfl | rfl | rfl | rfl
  · exact numB_bd h.1.1.1.1
  · exact numB_bd h.1.1.1.2
  · exact numB_bd h.1.1.2
  · exact numB_bd h.1.2
  · exact numB_bd h.2
theorem names_len : ∀ s ∈ polNames, s.length ≤ 6 := by decide
theorem pairs_mem {k : Pol} (h : polB k = true) : ∀ x ∈ k.pairs, x.1.length ≤ 6 ∧ 0 ≤ x.2 ∧ x.2 ≤ 9999 := by
  intro x hx
  obtain ⟨a, b⟩ := x
  have hz := List.of_mem_zip hx
  exact ⟨names_len _ hz.1, pol_bd h _ hz.2⟩
theorem polWord_len {x : List UInt8 × Int} (h : x.1.length ≤ 6 ∧ 0 ≤ x.2 ∧ x.2 ≤ 9999) : (polWord x).length ≤ 27 := by
  have := itoa_len x.2 h.2.1 (by omega)
  unfold polWord
  rw [List.length_append, List.length_cons]
  omega
theorem polWords_len {k : Pol} (h : polB k = true) (n : Nat) (hn : n ≤ 5) : (joinSp (polWords (k.pairs.take n))).length ≤ 140 := by
  have h1 := joinSp_len (polWords (k.pairs.take n)) 27 (by
    intro s hs
    obtain ⟨x, hx, rfl⟩ := List.mem_map.1 hs
    exact polWord_len (pairs_mem h x (List.mem_of_mem_take (List.mem_filter.1 hx).1)))
  have h2 : (polWords (k.pairs.take n)).length ≤ 5 := by
    unfold polWords
    rw [List.length_map]
    refine Nat.le_trans (List.length_filter_le _ _) ?_
    rw [List.length_take]; omega
  have := Nat.mul_le_mul_right 28 h2
  omega
theorem pairs_get (k : Pol) (n : Nat) (h : n < 5) : k.pairs[n]'h = (polNames[n]'h, k.nums[n]'h) := by
  match n, h with
  | 0, _ => rfl
  | 1, _ => rfl
  | 2, _ => rfl
  | 3, _ => rfl
  | 4, _ => rfl
theorem polText_eq (k : Pol) : polText k = if joinSp (polWords (k.pairs.take 5)) = [] then v_none else joinSp (polWords (k.pairs.take 5)) := by
  have hn := joinSp_nil_iff (polWords k.pairs) (polWords_ne _)
  have : k.pairs.take 5 = k.pairs := rfl
  rw [this]
  unfold polText
  by_cases h : polWords k.pairs = []
  · rw [if_pos h, if_pos (hn.2 h)]
  · rw [if_neg h, if_neg (fun e => h (hn.1 e))]

set_option maxHeartbeats 2000000 in
set_option maxRecDepth 100000 in
theorem rpolText_any (k : Pol) (hk : polB k = true) (w : World) :
    Calls Tryz.prog 20 #[encPol k] w fun e w' => e = .returned (.string ⟨(polText k).toArray⟩) ∧ Below w.heap.size w w' := by
  have HPT := Lib.hid (polText_eq k)
  have HPL := Lib.hid (fun n hn => polWords_len hk n hn)
  have HPM := Lib.hid (pairs_mem hk)
  have HSN : Hid (∀ j (h : j < 5), joinSp (polWords (k.pairs.take (j + 1))) = if 0 < k.nums[j]'h then (if joinSp (polWords (k.pairs.take j)) = [] then polWord (polNames[j]'h, k.nums[j]'h) else joinSp (polWords (k.pairs.take j)) ++ 32 :: polWord (polNames[j]'h, k.nums[j]'h)) else joinSp (polWords (k.pairs.take j))) := Lib.hid (by
    intro j h
    have e : k.pairs.take (j + 1) = k.pairs.take j ++ [k.pairs[j]'h] := List.take_succ_eq_append_getElem (l := k.pairs) h
    rw [e, polWords_snoc, pairs_get k j h])
  have HNM : Hid (∀ j (h : j < 5), (polNames[j]'h).length ≤ 6) := Lib.hid (fun j h => names_len _ (List.getElem_mem _))
  have HNU : Hid (∀ j (h : j < k.nums.length), 0 ≤ k.nums[j]'h ∧ k.nums[j]'h ≤ 9999) := Lib.hid (fun j h => pol_bd hk _ (List.getElem_mem _))
  have he : encPol k = .agg #[.int .i64 k.last, .int .i64 k.hours, .int .i64 k.days, .int .i64 k.weeks, .int .i64 k.months] := rfl
  rw [he]
  have HAR : Hid (∀ w' : World, Arr (w'.alloc (.cells #[.int .i64 k.last, .int .i64 k.hours, .int .i64 k.days, .int .i64 k.weeks, .int .i64 k.months] 82)) w'.heap.size k.nums) := Lib.hid (by
    intro w' j hj
    match j, hj with
    | 0, _ => simp [Pol.nums]
    | 1, _ => simp [Pol.nums]
    | 2, _ => simp [Pol.nums]
    | 3, _ => simp [Pol.nums]
    | 4, _ => simp [Pol.nums])
  go_enter Tryz.func20, Tryz.ntmps20
  go_wp2_with fail
  go_loopg [4, 5] 5 (fun g vs vi wr => ∃ j : Nat, g = 5 - j ∧ j ≤ 5 ∧ vs = .string ⟨(joinSp (polWords (k.pairs.take j))).toArray⟩ ∧ vi = .int .i64 j ∧ Arr wr (w.heap.size + 1) k.nums ∧ Below w.heap.size w wr)
  case atStart => exact ⟨0, rfl, by omega, rfl, rfl, by simpa using HAR.out (w.alloc _), ((Below.refl _ _).alloc (Nat.le_refl _) _).alloc (by simp) _⟩
  case round =>
    obtain ⟨j, hg, hj, rfl, rfl, harr, hbr⟩ := hrel
    have HARR := Lib.hid harr
    have HBr := Lib.hid hbr
    have hsz := hbr.size
    have htl := HPL.out j hj
    clear harr hbr
    by_cases hlt : j < 5
    · have hji : (j : Int) < 5 := by omega
      have hcell := HARR.out j hlt
      have hv := HNU.out j hlt
      have hnl := HNM.out j hlt
      have hsn := HSN.out j hlt
      have HN : Hid (∀ w : World, Calls Tryz.prog 37 #[] w fun e w' => ∃ g, e = .returned (.slice (some ⟨g, 0, none⟩) 5 5) ∧ (w'.cell? ⟨g, j, none⟩ = some (.string ⟨(polNames[j]'hlt).toArray⟩)) ∧ Below w.heap.size w w') :=
        Lib.hid (fun w => (names_any w).mono fun e w' ⟨g, h1, h2, h3⟩ => ⟨g, h1, h2 j hlt, h3⟩)
      generalize k.nums[j]'hlt = v at *
      generalize polNames[j]'hlt = nm at *
      generalize joinSp (polWords (k.pairs.take j)) = t at *
      by_cases hv0 : v ≤ 0
      · rw [if_neg (by omega)] at hsn
        have HS := Lib.hid hsn
        clear hsn
        go_wp2_with fail
        go_roundg (5 - (j + 1))
        case measure => omega
        case rel => exact ⟨j + 1, rfl, hlt, by rw [HS.out], by go_num, HARR.out, HBr.out⟩
      · rw [if_pos (by omega)] at hsn
        have HD : Hid (∀ w : World, Calls Tryz.prog 38 #[.int .i64 v] w fun e w' => e = .returned (.string ⟨(Lib.itoa v).toArray⟩) ∧ Below w.heap.size w w') := Lib.hid (by
          obtain ⟨m, rfl⟩ : ∃ m : Nat, v = m := ⟨v.toNat, by omega⟩
          exact fun w => rdecimal30_any m (by omega) (by omega) w)
        have hil := itoa_len v (by omega) (by omega)
        have g0 : decide (v ≤ 0) = false := decide_eq_false hv0
        have HPW : Hid (polWord (nm, v) = nm ++ 61 :: Lib.itoa v) := Lib.hid rfl
        generalize Lib.itoa v = ds at *
        obtain rfl | ⟨x, l, rfl⟩ : t = [] ∨ ∃ x l, t = x :: l := by cases t <;> simp
        · rw [if_pos rfl, HPW.out] at hsn
          have HS := Lib.hid hsn
          clear hsn hv hv0 htl
          go_wp2_with fail
          have hcd : wr.drew.cell? ⟨w.heap.size + 1, j, none⟩ = some (.int .i64 v) := hcell
          have hB0 : Below w.heap.size w wr.drew := bdrew HBr.out 1
          have hA0 : Arr wr.drew (w.heap.size + 1) k.nums := HARR.out
          have z1 : ¬ (9223372036854775807 < nm.length) := by omega
          have z2 : ¬ (9223372036854775807 < nm.length + 1) := by omega
          have z3 : ¬ (9223372036854775807 < nm.length + 1 + ds.length) := by omega
          have z4 : ¬ (9223372036854775807 < nm.length + (ds.length + 1)) := by omega
          go_region_with
            (first
            | (go_at_call 37; with_reducible refine (HN.out _).mono ?_; rintro e w1 ⟨g, rfl, hgc, hb1⟩; have hS := kept_arr (p := ⟨w.heap.size + 1, j, none⟩) (by assumption) (by assumption) (by assumption) hb1; obtain ⟨hS0, hS1, hS2⟩ := hS)
            | (go_at_call 38; with_reducible refine (HD.out _).mono ?_; rintro e w2 ⟨rfl, hb2⟩; (try have hgc2 := kept_one hgc hb2); have hT := kept_arr (p := ⟨w.heap.size + 1, j, none⟩) (by assumption) (by assumption) (by assumption) hb2; obtain ⟨hT0, hT1, hT2⟩ := hT))
          all_goals
            go_wp2_with fail
            go_roundg (5 - (j + 1))
            case measure => omega
            case rel =>
              refine ⟨j + 1, rfl, hlt, ?_, by go_num, by assumption, by assumption⟩
              rw [HS.out]
              all_goals first | rfl | simp
        · rw [if_neg (by simp), HPW.out] at hsn
          have HS := Lib.hid hsn
          have htl' : l.length + 1 ≤ 140 := by simpa using htl
          clear hsn hv hv0 htl
          go_wp2_with fail
          have hcd : wr.drew.cell? ⟨w.heap.size + 1, j, none⟩ = some (.int .i64 v) := hcell
          have hB0 : Below w.heap.size w wr.drew := bdrew HBr.out 1
          have hA0 : Arr wr.drew (w.heap.size + 1) k.nums := HARR.out
          have z1 : ¬ (9223372036854775807 < nm.length) := by omega
          have z2 : ¬ (9223372036854775807 < nm.length + 1) := by omega
          have z3 : ¬ (9223372036854775807 < nm.length + 1 + ds.length) := by omega
          have z4 : ¬ (9223372036854775807 < nm.length + (ds.length + 1)) := by omega
          go_region_with
            (first
            | (go_at_call 37; with_reducible refine (HN.out _).mono ?_; rintro e w1 ⟨g, rfl, hgc, hb1⟩; have hS := kept_arr (p := ⟨w.heap.size + 1, j, none⟩) (by assumption) (by assumption) (by assumption) hb1; obtain ⟨hS0, hS1, hS2⟩ := hS)
            | (go_at_call 38; with_reducible refine (HD.out _).mono ?_; rintro e w2 ⟨rfl, hb2⟩; (try have hgc2 := kept_one hgc hb2); have hT := kept_arr (p := ⟨w.heap.size + 1, j, none⟩) (by assumption) (by assumption) (by assumption) hb2; obtain ⟨hT0, hT1, hT2⟩ := hT))
          all_goals
            go_wp2_with fail
            go_roundg (5 - (j + 1))
            case measure => omega
            case rel =>
              refine ⟨j + 1, rfl, hlt, ?_, by go_num, by assumption, by assumption⟩
              rw [HS.out]
              all_goals first | rfl | simp
    · have hji : ¬ (j : Int) < 5 := by omega
      obtain rfl : j = 5 := by omega
      have HPT2 := HPT.out
      generalize joinSp (polWords (k.pairs.take 5)) = t at *
      obtain rfl | ⟨x, l, rfl⟩ : t = [] ∨ ∃ x l, t = x :: l := by cases t <;> simp
      · rw [if_pos rfl] at HPT2
        have HR := Lib.hid HPT2
        clear HPT2
        go_wp2_with fail
        go_ret
        rw [HR.out]
        exact ⟨rfl, HBr.out⟩
      · rw [if_neg (by simp)] at HPT2
        have HR := Lib.hid HPT2
        clear HPT2
        go_wp2_with fail
        go_ret
        rw [HR.out]
        exact ⟨rfl, HBr.out⟩
end Go.Proofs.YtnkhiaikdmpimaaGreatDoor
