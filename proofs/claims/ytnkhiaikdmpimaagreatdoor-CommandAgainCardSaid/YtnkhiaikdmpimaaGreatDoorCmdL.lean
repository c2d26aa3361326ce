/- (*Policy).parts AND policy.Text. -/
import Derived.Test.YtnkhiaikdmpimaaGreatDoorCmdK
import Derived.Test.YtnkhiaikdmpimaaGreatDoorLexQ
import Derived.Deep.RegionHeld3
import Derived.StillTailTactics
namespace Go.Proofs.YtnkhiaikdmpimaaGreatDoor
open Go.RowKit Lx

/-- a policy's parts in memory: names, and where their numbers lie -/
def PartsAt (w : World) (g b : Nat) : Prop := ∀ j (h : j < 5), w.cell? ⟨g, j * 2, none⟩ = some (.string ⟨(polNames[j]'h).toArray⟩) ∧ w.cell? ⟨g, j * 2 + 1, none⟩ = some (.pointer (some ⟨b, j, none⟩))
theorem PartsAt.below {w w' : World} {g b : Nat} (h : PartsAt w g b) (hb : Below w.heap.size w w') : PartsAt w' g b := fun j hj => ⟨kept_one (h j hj).1 hb, kept_one (h j hj).2 hb⟩

set_option maxHeartbeats 1000000 in
set_option maxRecDepth 100000 in
theorem polParts_any (b : Nat) (w : World) :
    Calls Tryz.prog 51 #[.pointer (some ⟨b, 0, none⟩)] w fun e w' => ∃ g, e = .returned (.slice (some ⟨g, 0, none⟩) 5 5) ∧ PartsAt w' g b ∧ w.heap.size ≤ g ∧ Below w.heap.size w w' := by
  go_enter Tryz.func51, Tryz.ntmps51
  go_wp2_with fail
  go_region_held3 (fun w' => True) (first | trivial) (first | fail)
  go_wp2_with fail
  go_ret
  refine ⟨w.heap.size, rfl, ?_, Nat.le_refl _, bdrew ((Below.refl _ _).alloc (Nat.le_refl _) _) 1⟩
  intro j h
  match j, h with
  | 0, _ => exact ⟨new_cell _ _ _ _ _ rfl _ rfl, new_cell _ _ _ _ _ rfl _ rfl⟩
  | 1, _ => exact ⟨new_cell _ _ _ _ _ rfl _ rfl, new_cell _ _ _ _ _ rfl _ rfl⟩
  | 2, _ => exact ⟨new_cell _ _ _ _ _ rfl _ rfl, new_cell _ _ _ _ _ rfl _ rfl⟩
  | 3, _ => exact ⟨new_cell _ _ _ _ _ rfl _ rfl, new_cell _ _ _ _ _ rfl _ rfl⟩
  | 4, _ => exact ⟨new_cell _ _ _ _ _ rfl _ rfl, new_cell _ _ _ _ _ rfl _ rfl⟩

/-- strings.Join over a row of one's own, by one space -/
theorem join_sp {w : World} {B : Nat} {v : Value} (l : List (List UInt8)) (h : w.ownsRow B 9 1 v l.length (scells l)) (hN : l.length ≤ 1000) (hs : ∀ s ∈ l, s.length ≤ 100000) :
    Calls Tryz.prog 16 #[v, .string ⟨#[32]⟩] w fun e w' => e = .returned (.string ⟨(joinSp l).toArray⟩) ∧ Below w.heap.size w w' := by
  obtain ⟨ao, co, rfl, hco, hcells⟩ := str_cells h
  by_cases h0 : l.length = 0
  · have hnil : l = [] := List.eq_nil_of_length_eq_zero h0
    subst hnil
    exact (Tryz.strings_Join_none ao co ⟨#[32]⟩ w).mono fun e w' ⟨he, hw⟩ => ⟨he, hw ▸ Below.refl _ _⟩
  · rcases ao with _ | ad
    · obtain ⟨ad, h, _⟩ := hcells 0 (by omega); cases h
    · obtain ⟨g, hg, hgc⟩ := hcells 0 (by omega)
      obtain rfl := Option.some.inj hg
      have hjp : Lib.join ((l.map fun s => (⟨s.toArray⟩ : ByteArray)).map (·.data.toList)) (⟨#[32]⟩ : ByteArray).data.toList = joinSp l := by
        rw [List.map_map]
        unfold joinSp
        congr 1
        exact List.map_id' _
      have hjl := joinSp_len l 100000 hs
      have hmul : l.length * (100000 + 1) ≤ 1000 * (100000 + 1) := Nat.mul_le_mul_right _ hN
      have hJ := Tryz.strings_Join g 0 co (l.map fun s => ⟨s.toArray⟩) ⟨#[32]⟩ w (by
        intro j x hx
        rw [List.getElem?_map] at hx
        obtain ⟨q, hq, rfl⟩ := Option.map_eq_some_iff.1 hx
        obtain ⟨hjlt, rfl⟩ := List.getElem?_eq_some_iff.1 hq
        obtain ⟨g', hg', hc'⟩ := hcells j hjlt
        obtain rfl : g = g' := by injection hg' with h1; injection h1
        rw [Nat.zero_add]; exact hc') (World.block_lt_of_cell? w _ hgc) (by simp; omega) (by simpa using hco) (by rw [hjp]; omega)
      rw [hjp] at hJ
      rw [List.length_map] at hJ
      exact hJ

theorem s_call {N : Nat} {v0 w0 w1 : World} {p q r : Addr} {a b c : Value} (h0 : w0.cell? p = some a) (h1 : w0.cell? q = some b) (h2 : w0.cell? r = some c) (hN : N ≤ w0.heap.size) (hB : Below v0.heap.size v0 w0) (hb : Below w0.heap.size w0 w1) :
    w1.cell? p = some a ∧ w1.cell? q = some b ∧ w1.cell? r = some c ∧ N ≤ w1.heap.size ∧ Below v0.heap.size v0 w1 :=
  ⟨kept_one h0 hb, kept_one h1 hb, kept_one h2 hb, by have := hb.size; omega, hB.trans (hb.mono hB.size)⟩
theorem kept_grown {w w' : World} {p : Addr} {c : Value} {row : Option Nat} (hc : w.cell? p = some c) (hg : w.grownBy w' row) (hne : row ≠ some p.block) : w'.cell? p = some c :=
  hg.cell hc (Ne.symm hne)
theorem s_grow {N : Nat} {v0 w0 w1 : World} {p q r : Addr} {a b c : Value} {row : Option Nat} (hg : w0.grownBy w1 row) (hr : ∀ g, row = some g → v0.heap.size ≤ g ∧ g < N) (h0 : w0.cell? p = some a) (h1 : w0.cell? q = some b) (h2 : w0.cell? r = some c)
    (hp : p.block = N) (hq : q.block = N) (hr2 : r.block < v0.heap.size) (hN : N ≤ w0.heap.size) (hB : Below v0.heap.size v0 w0) :
    w1.cell? p = some a ∧ w1.cell? q = some b ∧ w1.cell? r = some c ∧ N ≤ w1.heap.size ∧ Below v0.heap.size v0 w1 := by
  have hB2 := hB.grown hg hB.size (fun g h => (hr g h).1)
  refine ⟨kept_grown h0 hg (fun e => by have := (hr _ e).2; omega), kept_grown h1 hg (fun e => by have := (hr _ e).2; omega), kept_grown h2 hg (fun e => by have := (hr _ e).1; omega), ?_, hB2⟩
  have := hg.size
  omega
theorem polWords_count {k : Pol} (n : Nat) : (polWords (k.pairs.take n)).length ≤ 5 := by
  unfold polWords
  rw [List.length_map]
  refine Nat.le_trans (List.length_filter_le _ _) ?_
  rw [List.length_take]
  have : k.pairs.length = 5 := rfl
  omega
theorem polWords_next (l : List (List UInt8 × Int)) (x : List UInt8 × Int) : polWords (l ++ [x]) = if 0 < x.2 then polWords l ++ [polWord x] else polWords l := by
  unfold polWords
  rw [List.filter_append, List.map_append]
  by_cases hx : 0 < x.2
  · rw [if_pos hx, List.filter_cons, if_pos (by simpa using hx)]; rfl
  · rw [if_neg hx, List.filter_cons, if_neg (by simpa using hx)]; simp
theorem polWords_each {k : Pol} (h : polB k = true) (n : Nat) : ∀ s ∈ polWords (k.pairs.take n), s.length ≤ 27 := by
  intro s hs
  obtain ⟨x, hx, rfl⟩ := List.mem_map.1 hs
  exact polWord_len (pairs_mem h x (List.mem_of_mem_take (List.mem_filter.1 hx).1))

set_option maxHeartbeats 4000000 in
set_option maxRecDepth 100000 in
theorem polText_any (k : Pol) (hk : polB k = true) (w : World) (htab : Tab w) :
    Calls Tryz.prog 32 #[encPol k] w fun e w' => e = .returned (.string ⟨(polText k).toArray⟩) ∧ Below w.heap.size w w' := by
  obtain ⟨i0, hi0, hz0, hz1, hz2⟩ := info_parts infoStr
  have HI := Lib.hid hi0; have HI1 := Lib.hid hz0; have HI2 := Lib.hid hz1; have HI3 := Lib.hid hz2
  clear hi0 hz0 hz1 hz2
  have HSN : Hid (∀ j (h : j < 5), polWords (k.pairs.take (j + 1)) = if 0 < k.nums[j]'h then polWords (k.pairs.take j) ++ [polWord (polNames[j]'h, k.nums[j]'h)] else polWords (k.pairs.take j)) := Lib.hid (by
    intro j h
    have e : k.pairs.take (j + 1) = k.pairs.take j ++ [k.pairs[j]'h] := List.take_succ_eq_append_getElem (l := k.pairs) h
    rw [e, polWords_next, pairs_get k j h])
  have HNM : Hid (∀ j (h : j < 5), (polNames[j]'h).length ≤ 6) := Lib.hid (fun j h => names_len _ (List.getElem_mem _))
  have HNU : Hid (∀ j (h : j < k.nums.length), 0 ≤ k.nums[j]'h ∧ k.nums[j]'h ≤ 9999) := Lib.hid (fun j h => pol_bd hk _ (List.getElem_mem _))
  have HCT := Lib.hid (fun n => polWords_count (k := k) n)
  have HEA := Lib.hid (fun n => polWords_each hk n)
  have he : encPol k = .agg #[.int .i64 k.last, .int .i64 k.hours, .int .i64 k.days, .int .i64 k.weeks, .int .i64 k.months] := rfl
  rw [he]
  clear he
  have HAR : Hid (∀ w' : World, Arr (w'.alloc (.cells #[.int .i64 k.last, .int .i64 k.hours, .int .i64 k.days, .int .i64 k.weeks, .int .i64 k.months] 24)) w'.heap.size k.nums) := Lib.hid (by
    intro w' j hj
    match j, hj with
    | 0, _ => simp [Pol.nums]
    | 1, _ => simp [Pol.nums]
    | 2, _ => simp [Pol.nums]
    | 3, _ => simp [Pol.nums]
    | 4, _ => simp [Pol.nums])
  have HPP := Lib.hid (fun (w : World) => polParts_any w.heap.size (w.alloc (.cells #[.int .i64 k.last, .int .i64 k.hours, .int .i64 k.days, .int .i64 k.weeks, .int .i64 k.months] 24)))
  have HTB := Lib.hid htab
  clear htab
  go_enter Tryz.func32, Tryz.ntmps32
  go_wp2_with (go_at_call 51; refine (HPP.out _).mono ?_)
  rintro e w1 ⟨g, rfl, hpa, hge, hb1⟩
  have HPA := Lib.hid hpa
  have HA1 := Lib.hid ((HAR.out w).below hb1)
  have HB1 := Lib.hid (((Below.refl w.heap.size w).alloc (Nat.le_refl _) _).trans (hb1.mono (by rw [World.size_alloc]; omega)))
  have HT1 := Lib.hid (HTB.out.below HB1.out)
  have hsw := HB1.out.size
  have HWW : Hid (w.heap.size < w1.heap.size) := Lib.hid (by have := hb1.size; rw [World.size_alloc] at this; omega)
  clear hpa hge hb1
  go_wp2_with fail
  go_loopg [3, 8] 5 (fun gh vo vi wr => ∃ j : Nat, gh = 5 - j ∧ j ≤ 5 ∧ vi = .int .i64 j ∧ wr.ownsRow w1.heap.size 9 1 vo (polWords (k.pairs.take j)).length (scells (polWords (k.pairs.take j))) ∧ Below w1.heap.size w1 wr)
  case atStart => exact ⟨0, rfl, by omega, rfl, ⟨rfl, .inl ⟨rfl, rfl⟩⟩, Below.refl _ _⟩
  case round =>
    obtain ⟨j, hgh, hj, rfl, hown, hbr⟩ := hrel
    have HO := Lib.hid hown
    have HBr := Lib.hid hbr
    have hsz := hbr.size
    have hct := HCT.out j
    by_cases hlt : j < 5
    · have hji : (j : Int) < 5 := by omega
      obtain ⟨c1, c2⟩ := HPA.out.below hbr j hlt
      have c3 := HA1.out.below hbr j hlt
      have hv := HNU.out j hlt
      have hnl := HNM.out j hlt
      have hsn := HSN.out j hlt
      have hT := HT1.out.below hbr
      generalize k.nums[j]'hlt = v at *
      generalize polNames[j]'hlt = nm at *
      generalize polWords (k.pairs.take j) = ws at *
      have hblt : w.heap.size < wr.heap.size := World.block_lt_of_cell? wr _ c3
      have HII : Hid (∀ W, Tab W → Calls Tryz.prog 30 #[.int .i64 v] W fun e w' => e = .returned (.string ⟨(Lib.itoa v).toArray⟩) ∧ Below W.heap.size W w') := Lib.hid (fun W h => itoa_any v (by omega) (by omega) W h)
      clear hown hbr
      by_cases hv0 : 0 < v
      · rw [if_pos hv0] at hsn
        have HS := Lib.hid hsn
        have hil := itoa_len v (by omega) (by omega)
        have HPW : Hid (polWord (nm, v) = nm ++ 61 :: Lib.itoa v) := Lib.hid rfl
        generalize Lib.itoa v = ds at *
        clear hsn
        go_wp2_with fail
        have q0 : (wr.alloc (.cells #[.string ⟨nm.toArray⟩, .pointer (some ⟨w.heap.size, j, none⟩)] 98)).drew.cell? ⟨wr.heap.size, 0, none⟩ = some (.string ⟨nm.toArray⟩) := new_cell _ _ _ _ _ rfl _ rfl
        have q1 : (wr.alloc (.cells #[.string ⟨nm.toArray⟩, .pointer (some ⟨w.heap.size, j, none⟩)] 98)).drew.cell? ⟨wr.heap.size, 1, none⟩ = some (.pointer (some ⟨w.heap.size, j, none⟩)) := new_cell _ _ _ _ _ rfl _ rfl
        have q2 : (wr.alloc (.cells #[.string ⟨nm.toArray⟩, .pointer (some ⟨w.heap.size, j, none⟩)] 98)).drew.cell? ⟨w.heap.size, j, none⟩ = some (.int .i64 v) := kept_one (w1 := (wr.alloc (.cells #[.string ⟨nm.toArray⟩, .pointer (some ⟨w.heap.size, j, none⟩)] 98))) c3 ((Below.refl _ _).alloc (Nat.le_refl _) _)
        have q4 : wr.heap.size ≤ (wr.alloc (.cells #[.string ⟨nm.toArray⟩, .pointer (some ⟨w.heap.size, j, none⟩)] 98)).drew.heap.size := by show wr.heap.size ≤ (wr.alloc (.cells #[.string ⟨nm.toArray⟩, .pointer (some ⟨w.heap.size, j, none⟩)] 98)).heap.size; rw [World.size_alloc]; omega
        have q5 : Below w1.heap.size w1 (wr.alloc (.cells #[.string ⟨nm.toArray⟩, .pointer (some ⟨w.heap.size, j, none⟩)] 98)).drew := bdrew (HBr.out.alloc hsz _) 1
        have q6 : Below wr.heap.size wr (wr.alloc (.cells #[.string ⟨nm.toArray⟩, .pointer (some ⟨w.heap.size, j, none⟩)] 98)).drew := bdrew ((Below.refl _ _).alloc (Nat.le_refl _) _) 1
        have hww : w.heap.size < w1.heap.size := HWW.out
        have z1 : ¬ (9223372036854775807 < nm.length + 1) := by omega
        have z2 : ¬ (9223372036854775807 < nm.length + 1 + ds.length) := by omega
        have z3 : ¬ (9223372036854775807 < nm.length + (ds.length + 1)) := by omega
        have hm1 : ws.length + 1 ≤ maxLen := by unfold maxLen; omega
        have hm2 : (ws.length + 1) * 16 ≤ 140737488355328 := by omega
        go_region_held3 (fun w' => w'.cell? ⟨wr.heap.size, 0, none⟩ = some (.string ⟨nm.toArray⟩) ∧ w'.cell? ⟨wr.heap.size, 1, none⟩ = some (.pointer (some ⟨w.heap.size, j, none⟩)) ∧ w'.cell? ⟨w.heap.size, j, none⟩ = some (.int .i64 v) ∧ wr.heap.size ≤ w'.heap.size ∧ Below w1.heap.size w1 w') (first | exact ⟨by assumption, by assumption, by assumption, by assumption, by assumption⟩ | exact s_call (p := ⟨wr.heap.size, 0, none⟩) (q := ⟨wr.heap.size, 1, none⟩) (r := ⟨w.heap.size, j, none⟩) (N := wr.heap.size) (v0 := w1) (by assumption) (by assumption) (by assumption) (by assumption) (by assumption) ((Below.refl _ _).alloc (Nat.le_refl _) _))
          (first
          | (go_at_call 30; refine (HII.out _ (HT1.out.below (by assumption))).mono ?_; rintro e w2 ⟨rfl, hb2⟩; have hX := q6.trans (hb2.mono q4); have hS := s_call (p := ⟨wr.heap.size, 0, none⟩) (q := ⟨wr.heap.size, 1, none⟩) (r := ⟨w.heap.size, j, none⟩) (N := wr.heap.size) (v0 := w1) (by assumption) (by assumption) (by assumption) (by assumption) (by assumption) hb2; obtain ⟨hS0, hS1, hS2, hS3, hS4⟩ := hS)
          | (refine step_append_lies _ (by rfl) _ _ _ (by rfl) w1.heap.size 9 i0 _ 1 16 Tryz.underlying45 HI.out HI1.out HI2.out HI3.out rfl (by omega) u3 ws.length (scells ws) (by rfl) (by exact own_alloc (own_below HO.out hX) _) ⟨w2.heap.size, 0, none⟩ 1 1 [.string ⟨(nm ++ 61 :: ds).toArray⟩] (by rfl) (by rfl) (World.news_of_block (cs := #[.string ⟨(nm ++ 61 :: ds).toArray⟩]) (t := 9) (fr := (0, 0)) (heap_alloc_new _ _)) (by simp [Value.oneCell']) (by omega) hm1 hm2 (by simp; omega) (w2.heap.size + 1) (by simp) ?_; intro gg cap w3 hown3 hgrow hat hlt3; have hS' := s_call (p := ⟨wr.heap.size, 0, none⟩) (q := ⟨wr.heap.size, 1, none⟩) (r := ⟨w.heap.size, j, none⟩) (N := wr.heap.size) (v0 := w1) hS0 hS1 hS2 hS3 hS4 ((Below.refl w2.heap.size w2).alloc (Nat.le_refl _) (.cells #[.string ⟨(nm ++ 61 :: ds).toArray⟩] 9)); have hG := s_grow (p := ⟨wr.heap.size, 0, none⟩) (q := ⟨wr.heap.size, 1, none⟩) (r := ⟨w.heap.size, j, none⟩) (N := wr.heap.size) (v0 := w1) hgrow (fun g hg => own_lt HO.out hg) hS'.1 hS'.2.1 hS'.2.2.1 rfl rfl hww hS'.2.2.2.1 hS'.2.2.2.2; obtain ⟨hG0, hG1, hG2, hG3, hG4⟩ := hG))
        all_goals
          go_wp2_with fail
          go_roundg (5 - (j + 1))
          case measure => omega
          case rel =>
            refine ⟨j + 1, rfl, hlt, by go_num, ?_, hG4⟩
            rw [HS.out, HPW.out, scells_snoc, List.length_append]
            exact hown3
      · rw [if_neg hv0] at hsn
        have HS := Lib.hid hsn
        have g0 : decide (0 < v) = false := decide_eq_false hv0
        clear hsn hv0
        go_wp2_with fail
        go_roundg (5 - (j + 1))
        case measure => omega
        case rel => exact ⟨j + 1, rfl, hlt, by go_num, by rw [HS.out]; exact own_alloc HO.out _, HBr.out.alloc hsz _⟩
    · have hji : ¬ (j : Int) < 5 := by omega
      obtain rfl : j = 5 := by omega
      have hpt : k.pairs.take 5 = k.pairs := rfl
      rw [hpt] at hown hct
      have HEA2 := HEA.out 5
      rw [hpt] at HEA2
      have HPT : Hid (polText k = if polWords k.pairs = [] then v_none else joinSp (polWords k.pairs)) := Lib.hid rfl
      generalize polWords k.pairs = ws at *
      have HJ := Lib.hid (join_sp ws hown (by omega) (fun s hs => by have := HEA2 s hs; omega))
      obtain ⟨ao, co, rfl, hco, hcells⟩ := str_cells hown
      clear hown hbr hcells HO hpt
      by_cases h0 : ws = []
      · subst h0
        go_wp2_with fail
        go_ret
        rw [HPT.out]
        exact ⟨rfl, HB1.out.trans (HBr.out.mono hsw)⟩
      · have hl : ((ws.length : Int) == 0) = false := by
          rw [beq_eq_false_iff_ne]; intro e
          exact h0 (List.eq_nil_of_length_eq_zero (by omega))
        have HPT2 : Hid (polText k = joinSp ws) := Lib.hid (by rw [HPT.out, if_neg h0])
        clear h0
        go_wp2_with (go_at_call 16; with_reducible refine HJ.out.mono ?_)
        first | rintro e w2 rfl hb2 | rintro e w2 ⟨rfl, hb2⟩
        go_wp2_with fail
        go_ret
        rw [HPT2.out]
        exact ⟨rfl, HB1.out.trans ((HBr.out.trans (hb2.mono hsz)).mono hsw)⟩
end Go.Proofs.YtnkhiaikdmpimaaGreatDoor
