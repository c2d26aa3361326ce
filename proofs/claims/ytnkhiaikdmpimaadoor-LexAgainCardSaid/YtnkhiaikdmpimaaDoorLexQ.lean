/- lex.Join AND THE REFERENCE'S. -/
import Derived.Test.YtnkhiaikdmpimaaDoorLexP
namespace Go.Proofs.YtnkhiaikdmpimaaDoor
open Go.RowKit Lx

theorem join_plain : ∀ ss : List (List UInt8), Lib.join (ss.map quoteB) [32] = joinB ss
  | [] => rfl
  | [s] => Lib.join_one _ _
  | s :: t :: l => by
    have ih := join_plain (t :: l)
    simp only [List.map_cons] at ih ⊢
    rw [joinB, ← ih]
    simp only [Lib.join, List.intercalate, List.intersperse, List.flatten_cons]
    rfl
theorem infoStr : (Tryd.prog.info? 9).map (fun i => (i.zero, i.size, i.bytes)) = some (some (.string ByteArray.empty), 1, 16) := by kernel_rfl
def scells (l : List (List UInt8)) : List Value := l.map fun s => .string ⟨s.toArray⟩
theorem scells_snoc (l : List (List UInt8)) (s : List UInt8) : scells (l ++ [s]) = scells l ++ [.string ⟨s.toArray⟩] := by unfold scells; rw [List.map_append]; rfl

theorem str_cells {w : World} {B : Nat} {e : TypeId} {v : Value} {l : List (List UInt8)} (h : w.ownsRow B e 1 v l.length (scells l)) :
    ∃ a cap, v = .slice a l.length cap ∧ l.length ≤ cap ∧ ∀ k (hk : k < l.length), ∃ g, a = some ⟨g, 0, none⟩ ∧ w.cell? ⟨g, k, none⟩ = some (.string ⟨l[k].toArray⟩) := by
  have hc := fun g hg => World.ownsRow.cells h (g := g) hg
  rcases h.2 with ⟨hv, hn⟩ | ⟨g, cap, cur, hv, _, _, hcap, _⟩
  · exact ⟨none, 0, by rw [hn]; exact hv, by omega, fun k hk => by omega⟩
  · refine ⟨some ⟨g, 0, none⟩, cap, hv, hcap, fun k hk => ⟨g, rfl, ?_⟩⟩
    have h2 := hc g (by rw [hv]; rfl)
    have hadd : ∀ j, (⟨g, 0, none⟩ : Addr).add j = ⟨g, j, none⟩ := fun j => by unfold Addr.add; split <;> simp_all
    rw [← hadd]
    exact h2 k _ (by unfold scells; rw [List.getElem?_map, List.getElem?_eq_getElem hk]; rfl)
/-- what an argument of strings holds -/
def Strs (w : World) (a : Option Addr) (ss : List (List UInt8)) : Prop := ∀ k (h : k < ss.length), ∃ ad, a = some ad ∧ w.cell? (ad.add k) = some (.string ⟨ss[k].toArray⟩)
theorem Strs.below {w w' : World} {a : Option Addr} {ss : List (List UInt8)} (h : Strs w a ss) (hb : Below w.heap.size w w') : Strs w' a ss := by
  intro k hk
  obtain ⟨ad, ha, hc⟩ := h k hk
  exact ⟨ad, ha, (hb.cell (p := ad.add k) (World.block_lt_of_cell? w _ hc)).trans hc⟩

set_option maxHeartbeats 1000000 in
set_option maxRecDepth 100000 in
theorem join_any (a : Option Addr) (cap : Nat) (ss : List (List UInt8)) (w : World) (hc : Strs w a ss) (hl : ss.length ≤ 1000) (hs : ∀ s ∈ ss, s.length ≤ 2000) :
    Calls Tryd.prog 15 #[.slice a ss.length cap] w fun e w' => e = .returned (.string ⟨(joinB ss).toArray⟩) ∧ Below w.heap.size w w' := by
  obtain ⟨i0, hi0, hz0, hz1, hz2⟩ := info_parts infoStr
  have HC := Lib.hid hc
  have HS := Lib.hid hs
  have HI := Lib.hid hi0; have HI1 := Lib.hid hz0; have HI2 := Lib.hid hz1; have HI3 := Lib.hid hz2
  clear hi0 hz0 hz1 hz2 hc hs
  go_enter Tryd.func15, Tryd.ntmps15
  go_wp2_with fail
  go_loopg [3, 5, 8] ss.length (fun g vo _ i wr => ∃ k : Nat, g = ss.length - k ∧ k ≤ ss.length ∧ i = .int .i64 k ∧ wr.ownsRow w.heap.size 9 1 vo k (scells ((ss.map quoteB).take k)) ∧ Below w.heap.size w wr)
  case atStart => exact ⟨0, rfl, Nat.zero_le _, rfl, ⟨rfl, .inl ⟨rfl, rfl⟩⟩, Below.refl _ _⟩
  case round =>
    obtain ⟨k, rfl, hk, rfl, hown, hbr⟩ := hrel
    have HBr := Lib.hid hbr
    have HO := Lib.hid hown
    have hsz := hbr.size
    by_cases hlt : k < ss.length
    · have hki : (k : Int) < (ss.length : Int) := by omega
      obtain ⟨ad, rfl, hcell⟩ := (HC.out.below hbr) k hlt
      have hq := Lib.hid (quote_any ss[k] (HS.out _ (List.getElem_mem _)) wr)
      generalize hss : ss[k] = s at hcell
      have HE := Lib.hid hss
      rw [hss] at hq
      have hle : (k + 1 : Nat) ≤ 1001 := by omega
      clear hown hbr hss
      go_wp2_with (go_at_call 13; refine hq.out.mono ?_)
      rintro e w1 ⟨rfl, hb1⟩
      have HB1 := Lib.hid (HBr.out.trans (hb1.mono hsz))
      have hN := HB1.out.size
      have HO1 := Lib.hid (own_below HO.out hb1)
      clear hb1
      go_wp2_with (at_builtin; refine wpList_append_own _ rfl _ _ 35 rfl w.heap.size 9 i0 (.string ByteArray.empty) 1 16 Tryd.underlying35 HI.out HI1.out HI2.out HI3.out rfl (by decide) _ _ _ rfl (own_alloc HO1.out _) ⟨w1.heap.size, 0, none⟩ 1 1 [.string ⟨(quoteB s).toArray⟩] rfl rfl ?c1 ?c2 ?c3 ?c4 ?c5 ?_)
      case c1 =>
        intro j u hj
        match j, hj with
        | 0, hj => simp at hj; subst hj; simp [Addr.add]
      case c2 => intro u hu; simp at hu; subst hu; rfl
      case c3 => unfold maxLen; omega
      case c4 => omega
      case c5 => simp; omega
      intro v' w2 hown' hgrow _
      go_wp2_with fail
      go_roundg (ss.length - (k + 1))
      case measure => omega
      case rel =>
        refine ⟨k + 1, rfl, hlt, by go_num, ?_, (HB1.out.alloc hN _).grown hgrow (by simp; omega) (fun g hg => (own_lt HO1.out hg).1)⟩
        rw [List.take_succ_eq_append_getElem (by simpa using hlt), List.getElem_map, HE.out, scells_snoc]
        exact hown'
    · have hki : ¬ (k : Int) < (ss.length : Int) := by omega
      obtain rfl : k = ss.length := by omega
      rw [List.take_of_length_le (by simp)] at hown
      obtain ⟨ao, co, rfl, hco, hcells⟩ := str_cells (l := ss.map quoteB) (by rw [List.length_map]; exact hown)
      have hj : Calls Tryd.prog 32 #[.slice ao ss.length co, .string ⟨#[32]⟩] wr fun e w' => e = .returned (.string ⟨(joinB ss).toArray⟩) ∧ Below wr.heap.size wr w' := by
        by_cases h0 : ss.length = 0
        · have hnil : ss = [] := List.eq_nil_of_length_eq_zero h0
          subst hnil
          exact (Tryd.strings_Join_none ao co ⟨#[32]⟩ wr).mono fun e w' ⟨he, hw⟩ => ⟨he, hw ▸ Below.refl _ _⟩
        · rcases ao with _ | ad
          · obtain ⟨ad, h, _⟩ := hcells 0 (by simp; omega); cases h
          · have hg0 := hcells 0 (by simp; omega)
            obtain ⟨g, hg, hgc⟩ := hg0
            obtain rfl := Option.some.inj hg
            have hjp : Lib.join (((ss.map quoteB).map fun s => (⟨s.toArray⟩ : ByteArray)).map (·.data.toList)) (⟨#[32]⟩ : ByteArray).data.toList = joinB ss := by
              rw [← join_plain, List.map_map]
              congr 1
              exact List.map_id' _
            have hjl : (joinB ss).length ≤ ss.length * 8003 := join_len ss 8002 (fun s h => by have := quote_len s; have := HS.out s h; omega)
            have h := Tryd.strings_Join g 0 co ((ss.map quoteB).map fun s => ⟨s.toArray⟩) ⟨#[32]⟩ wr (by
              intro j x hx
              rw [List.getElem?_map] at hx
              obtain ⟨q, hq, rfl⟩ := Option.map_eq_some_iff.1 hx
              obtain ⟨hjlt, rfl⟩ := List.getElem?_eq_some_iff.1 hq
              obtain ⟨g', hg', hc'⟩ := hcells j hjlt
              obtain rfl : g = g' := by injection hg' with h1; injection h1
              rw [Nat.zero_add]; exact hc') (World.block_lt_of_cell? wr _ hgc) (by simp; omega) (by simpa using hco) (by rw [hjp]; omega)
            rw [hjp] at h
            rw [List.length_map, List.length_map] at h
            exact h
      have HJ := Lib.hid hj
      clear hj hown hbr hcells
      go_wp2_with (go_at_call 32; refine HJ.out.mono ?_)
      rintro e w1 rfl hb1
      go_wp2_with fail
      go_ret
      exact ⟨rfl, HBr.out.trans (hb1.mono hsz)⟩

theorem joinB_snoc : ∀ (l : List (List UInt8)) (s : List UInt8), l ≠ [] → joinB (l ++ [s]) = joinB l ++ 32 :: quoteB s
  | [], _, h => absurd rfl h
  | [t], s, _ => rfl
  | t :: u :: l, s, _ => by
    have ih := joinB_snoc (u :: l) s (by simp)
    simp only [List.cons_append] at ih ⊢
    rw [joinB, ih, joinB]
    simp
theorem join_take_len (ss : List (List UInt8)) (hl : ss.length ≤ 1000) (hs : ∀ s ∈ ss, s.length ≤ 2000) (k : Nat) : (joinB (ss.take k)).length ≤ 8003000 := by
  have h := join_len (ss.take k) 8002 (fun s h => by have := quote_len s; have := hs s (List.mem_of_mem_take h); omega)
  have : (ss.take k).length ≤ 1000 := by rw [List.length_take]; omega
  omega

set_option maxHeartbeats 1000000 in
set_option maxRecDepth 100000 in
theorem rjoin_any (a : Option Addr) (cap : Nat) (ss : List (List UInt8)) (w : World) (hc : Strs w a ss) (hl : ss.length ≤ 1000) (hs : ∀ s ∈ ss, s.length ≤ 2000) :
    Calls Tryd.prog 16 #[.slice a ss.length cap] w fun e w' => e = .returned (.string ⟨(joinB ss).toArray⟩) ∧ Below w.heap.size w w' := by
  have HC := Lib.hid hc
  have HS := Lib.hid hs
  clear hc hs
  go_enter Tryd.func16, Tryd.ntmps16
  go_wp2_with fail
  go_loopg [3, 4] ss.length (fun g vo i wr => ∃ k : Nat, g = ss.length - k ∧ k ≤ ss.length ∧ vo = .string ⟨(joinB (ss.take k)).toArray⟩ ∧ i = .int .i64 k ∧ Below w.heap.size w wr)
  case atStart => exact ⟨0, rfl, Nat.zero_le _, rfl, rfl, Below.refl _ _⟩
  case round =>
    obtain ⟨k, rfl, hk, rfl, rfl, hbr⟩ := hrel
    have HBr := Lib.hid hbr
    have hsz := hbr.size
    by_cases hlt : k < ss.length
    · have hki : (k : Int) < (ss.length : Int) := by omega
      obtain ⟨ad, rfl, hcell⟩ := (HC.out.below hbr) k hlt
      have hq := Lib.hid (rquote_any ss[k] (HS.out _ (List.getElem_mem _)) wr)
      have hjl := join_take_len ss hl HS.out k
      have hsl := HS.out ss[k] (List.getElem_mem _)
      have hql := quote_len ss[k]
      have htk : ss.take (k + 1) = ss.take k ++ [ss[k]] := List.take_succ_eq_append_getElem hlt
      generalize hss : ss[k] = s at hcell hq hsl hql htk
      have HT := Lib.hid htk
      clear hbr hss htk
      by_cases h0 : k = 0
      · subst h0
        have hz : ad.add 0 = ad := by unfold Addr.add; split <;> simp_all
        rw [hz] at hcell
        rw [show joinB (ss.take 0) = [] from rfl]
        clear hz
        go_wp2_with (go_at_call 14; refine hq.out.mono ?_; first | rintro e w1 ⟨rfl, hb1⟩ | rintro e w1 rfl hb1)
        go_roundg (ss.length - 1)
        case measure => omega
        case rel =>
          refine ⟨1, rfl, hlt, ?_, rfl, HBr.out.trans (hb1.mono hsz)⟩
          rw [HT.out]; rfl
      · have hk0 : (0 : Int) < (k : Int) := by omega
        have hne : ss.take k ≠ [] := by
          intro h
          have := congrArg List.length h
          rw [List.length_take, List.length_nil] at this; omega
        have hfin : joinB (ss.take (k + 1)) = joinB (ss.take k) ++ 32 :: quoteB s := by rw [HT.out, joinB_snoc _ _ hne]
        have HF := Lib.hid hfin
        clear hfin hne h0
        go_wp2_with (go_at_call 14; refine hq.out.mono ?_; first | rintro e w1 ⟨rfl, hb1⟩ | rintro e w1 rfl hb1)
        go_roundg (ss.length - (k + 1))
        case measure => omega
        case rel =>
          refine ⟨k + 1, rfl, hlt, ?_, by go_num, HBr.out.trans (hb1.mono hsz)⟩
          rw [HF.out]
    · have hki : ¬ (k : Int) < (ss.length : Int) := by omega
      have he : ss.take k = ss := List.take_of_length_le (by omega)
      rw [he]
      go_wp2_with fail
      go_ret
      exact ⟨rfl, HBr.out⟩
end Go.Proofs.YtnkhiaikdmpimaaDoor
