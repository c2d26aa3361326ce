/- A ROW's ARGUMENT THAT IS A SLICE OF STRINGS: opened as lists of bytes; and read again behind a call. -/
import Derived.Test.YtnkhiaikdmpimaaDoorRowAid
import Derived.Test.YtnkhiaikdmpimaaDoorLexQ
import Derived.SliceStrings
import Derived.Carry
namespace Go.Proofs.YtnkhiaikdmpimaaDoor
open Go.ChangeShapes Go.WideShapes Go.ChangeAt Go.RowKit

theorem laidOut : laidOutB Tryd.prog = true := by kernel_rfl
theorem cellsString : Tryd.prog.cellsOf 9 = 1 := by kernel_rfl
set_option maxRecDepth 100000 in
/-- the argument opened: its strings as lists of bytes, nil let in -/
theorem open_strs {H : Type} {enc : TypeId × Value → H} {W : World} {v : Value} {d : DataW H} {ps : List MemPlace}
    (hv : ∃ a n c, v = .slice a n c) (h : DataW.Trod enc Tryd.prog W 0 (fun _ => true) true 35 v d ps) :
    ∃ (a : Option Addr) (cap : Nat) (ss : List (List UInt8)), v = .slice a ss.length cap ∧ Strs W a ss := by
  obtain ⟨a0, n, c, rfl⟩ := hv
  obtain ⟨fuel, hf⟩ := h
  rcases open_strings Tryd.underlying35 Tryd.underlying9 cellsString hf with ⟨hcs, hx⟩ | ⟨a, len, cap, ss, hcs, _, hl, hm, hz, hx, hcell, hsz⟩
  · simp [Value.cells] at hcs
    obtain ⟨rfl, rfl, rfl⟩ := hcs
    exact ⟨none, 0, [], rfl, fun k hk => by cases hk⟩
  · simp [Value.cells] at hcs
    obtain ⟨rfl, rfl, rfl⟩ := hcs
    have hlen : ss.length = c := by simpa using hz
    refine ⟨some a, c, (ss.take n).map (·.data.toList), ?_, ?_⟩
    · rw [List.length_map, List.length_take, Nat.min_eq_left (by omega)]
    · intro k hk
      refine ⟨a, rfl, ?_⟩
      have hk' : k < n := by simpa [List.length_take] using (by rw [List.length_map, List.length_take] at hk; omega : k < n)
      rw [hcell k (by omega), List.getElem_map, List.getElem_take]
      rw [← str_eta]
      congr 2
      rw [List.getD_eq_getElem?_getD, List.getElem?_eq_getElem (by omega)]; rfl
end Go.Proofs.YtnkhiaikdmpimaaDoor
