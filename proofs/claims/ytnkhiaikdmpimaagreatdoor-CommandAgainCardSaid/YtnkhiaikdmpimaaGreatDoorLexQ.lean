/- lex.Join AND THE REFERENCE'S. -/
import Derived.Test.YtnkhiaikdmpimaaGreatDoorLexP
namespace Go.Proofs.YtnkhiaikdmpimaaGreatDoor
open Go.RowKit Lx

theorem join_plain : ∀ ss : List (List UInt8), Lib.join (ss.map quoteB) [32] = joinB ss
  | [] => rfl
  | [s] => Lib.join_one _ _
  | s :: t :: l => by
    have ih := join_plain (t :: l)
    simp only [List.map_cons] at ih ⊢
    rw [joinB, ← ih]
    simp only [Lib.join, List.intercalate, List.intersperse, List.flatten_cons]
    rfl
theorem infoStr : (Tryz.prog.info? 9).map (fun i => (i.zero, i.size, i.bytes)) = some (some (.string ByteArray.empty), 1, 16) := by kernel_rfl
def scells (l : List (List UInt8)) : List Value := l.map fun s => .string ⟨s.toArray⟩
theorem scells_snoc (l : List (List UInt8)) (s : List UInt8) : scells (l ++ [s]) = scells l ++ [.string ⟨s.toArray⟩] := by unfold scells; rw [List.map_append]; rfl

theorem str_cells {w : World} {B : Nat} {e : TypeId} {v : Value} {l : List (List UInt8)} (h : w.ownsRow B e 1 v l.length (scells l)) :
    ∃ a cap, v = .slice a l.length cap ∧ l.length ≤ cap ∧ ∀ k (hk : k < l.length), ∃ g, a = some ⟨g, 0, none⟩ ∧ w.cell? ⟨g, k, none⟩ = some (.string ⟨l[k].toArray⟩) := by
  have hc := fun g hg => World.ownsRow.cells h (g := g) hg
  rcases h.2 with ⟨hv, hn⟩ | ⟨g, cap, cur, hv, _, _, hcap, _⟩
  · exact ⟨none, 0, by rw [hn]; exact hv, by omega, fun k hk => by omega⟩
  · refine ⟨some ⟨g, 0, none⟩, cap, hv, hcap, fun k hk => ⟨g, rfl, ?_⟩⟩
    have h2 := hc g (by rw [hv]; rfl)
    have hadd : ∀ j, (⟨g, 0, none⟩ : Addr).add j = ⟨g, j, none⟩ := fun j => by unfold Addr.add; split <;> simp_all
    rw [← hadd]
    exact h2 k _ (by unfold scells; rw [List.getElem?_map, List.getElem?_eq_getElem hk]; rfl)
/-- what an argument of strings holds -/
def Strs (w : World) (a : Option Addr) (ss : List (List UInt8)) : Prop := ∀ k (h : k < ss.length), ∃ ad, a = some ad ∧ w.cell? (ad.add k) = some (.string ⟨ss[k].toArray⟩)
theorem Strs.below {w w' : World} {a : Option Addr} {ss : List (List UInt8)} (h : Strs w a ss) (hb : Below w.heap.size w w') : Strs w' a ss := by
  intro k hk
  obtain ⟨ad, ha, hc⟩ := h k hk
  exact ⟨ad, ha, (hb.cell (p := ad.add k) (World.block_lt_of_cell? w _ hc)).trans hc⟩

theorem joinB_snoc : ∀ (l : List (List UInt8)) (s : List UInt8), l ≠ [] → joinB (l ++ [s]) = joinB l ++ 32 :: quoteB s
  | [], _, h => absurd rfl h
  | [t], s, _ => rfl
  | t :: u :: l, s, _ => by
    have ih := joinB_snoc (u :: l) s (by simp)
    simp only [List.cons_append] at ih ⊢
    rw [joinB, ih, joinB]
    simp
theorem join_take_len (ss : List (List UInt8)) (hl : ss.length ≤ 1000) (hs : ∀ s ∈ ss, s.length ≤ 2000) (k : Nat) : (joinB (ss.take k)).length ≤ 8003000 := by
  have h := join_len (ss.take k) 8002 (fun s h => by have := quote_len s; have := hs s (List.mem_of_mem_take h); omega)
  have : (ss.take k).length ≤ 1000 := by rw [List.length_take]; omega
  omega

end Go.Proofs.YtnkhiaikdmpimaaGreatDoor
