/- THE REFERENCE'S quoted AND Split. -/
import Derived.Test.YtnkhiaikdmpimaaGreatDoorLexG
namespace Go.Proofs.YtnkhiaikdmpimaaGreatDoor
open Go.RowKit Lx

@[go_sem] theorem str_append (a b : List UInt8) : (⟨a.toArray⟩ : ByteArray) ++ ⟨b.toArray⟩ = ⟨(a ++ b).toArray⟩ := by
  apply str_mk
  rw [ByteArray.data_append]
  simp
/-- 'string([]byte{c})' -/
theorem one_byte (c : UInt8) (n : Nat) (w : World) : (convert 72 9 (.slice (some ⟨w.heap.size, 0, none⟩) 1 n)).run Tryz.prog (w.alloc (.cells #[.int .u8 c.toNat] 5)) = .ok (.string ⟨[c].toArray⟩) (w.alloc (.cells #[.int .u8 c.toNat] 5)) := by
  refine run_convert_bytes_back (P := Tryz.prog) _ 72 9 5 ⟨w.heap.size, 0, none⟩ n [c] Tryz.underlying72 Tryz.underlying5 Tryz.underlying9 ?_
  intro j hj
  obtain rfl : j = 0 := by simpa using hj
  have hadd : (⟨w.heap.size, 0, none⟩ : Addr).add 0 = ⟨w.heap.size, 0, none⟩ := by unfold Addr.add; simp
  rw [hadd, World.cell?_alloc_mark]
  simp

/-- what the reference's quoted hands back -/
def RQ (l r : List UInt8) (e : Ending) : Prop :=
  match qscan [] r with
  | some (x, t) => ∃ n : Nat, 0 < n ∧ n ≤ l.length ∧ l.drop n = t ∧ e = .returned (.tuple #[.string ⟨x.toArray⟩, .int .i64 n])
  | none => e = .returned (.tuple #[.string ⟨#[]⟩, .int .i64 0])

theorem drop_cons {l t : List UInt8} {i : Nat} {c : UInt8} (h : l.drop i = c :: t) : i < l.length ∧ l.drop (i + 1) = t ∧ ∀ (hi : i < l.length), l[i] = c := by
  have hi : i < l.length := by
    rcases Nat.lt_or_ge i l.length with h' | h'
    · exact h'
    · rw [List.drop_of_length_le h'] at h; cases h
  have h1 := List.drop_eq_getElem_cons hi
  rw [h] at h1
  injection h1 with h1 h2
  exact ⟨hi, h2.symm, fun _ => h1.symm⟩

end Go.Proofs.YtnkhiaikdmpimaaGreatDoor
