/- strconv.FormatUint AT BASE 10. -/
import Derived.Test.YtnkhiaikdmpimaaGreatDoorCmdJ
import Derived.Lib.AppendIntMem
import Derived.Lib.Walk
import Derived.BigCall
import Derived.BigGuard
namespace Go.Proofs.YtnkhiaikdmpimaaGreatDoor
open Go.RowKit Lx Go.Sort

/-- the table of powers of ten lies in the world -/
def Tab (w : World) : Prop := Lib.TabIs Tryz.prog w "internal/strconv.uint64pow10" .u64 Lib.pow10Tab
theorem Tab.of {w w' : World} (h : Tab w) (hk : ∀ (g : Nat) (o : Obj), w.heap[g]? = some o → w'.heap[g]? = some o) : Tab w' := by
  unfold Tab Lib.TabIs World.var? at *
  cases hg : (Tryz.prog).globalNamed "internal/strconv.uint64pow10" with
  | none => simp [hg] at h
  | some g =>
    simp only [hg, Option.bind_some] at h ⊢
    cases ho : w.heap[g]? with
    | none => rw [ho] at h; simp at h
    | some o => rw [ho] at h; rw [hk g o ho]; exact h
theorem Tab.below {w w' : World} (h : Tab w) (hb : Below w.heap.size w w') : Tab w' := h.of fun g o hg => (hb.block g (heap_lt hg)).trans hg
theorem Tab.drewN {w : World} (h : Tab w) (n : Nat) : Tab (w.drewN n) := h.of fun _ _ hg => hg

set_option maxHeartbeats 6400000 in
set_option maxRecDepth 100000 in
theorem innerUint_any (u : Nat) (hu64 : u < 18446744073709551616) (w : World) (htab : Tab w) :
    Calls Tryz.prog 50 #[.int .u64 u, .int .i64 10] w fun e w' => e = .returned (.string ⟨(Lib.itoa u).toArray⟩) ∧ Below w.heap.size w w' := by
  by_cases hs : u < 100
  · have hi : (u : Int) < 100 := by omega
    have HS := Lib.hid (fun w => Tryz.internal_strconv_small u hs w)
    have HI := Lib.hid (itoa_nat u)
    go_enter Tryz.func50, Tryz.ntmps50
    go_wp2_with (go_at_call 66; with_reducible refine (HS.out _).mono ?_; rintro e w' ⟨rfl, rfl⟩)
    go_ret
    rw [HI.out]
    exact ⟨rfl, Below.refl _ _⟩
  · have hu1 : 1 ≤ u := by omega
    have hi : ¬ (u : Int) < 100 := by omega
    have hnd20 : Lib.nDigits u ≤ 20 := nDigits_le 20 u (by omega) (by decide)
    have hsl : ∀ W, (Instr.sliceAt 117 (.pointer (some ⟨w.heap.size, 0, none⟩)) none (some (.int .i64 (Lib.nDigits u : Int))) none).run Tryz.prog W = .ok (.slice (some ⟨w.heap.size, 0, none⟩) (Lib.nDigits u) 24) W := fun W => by
      rw [run_sliceAt_array_h W 117 ⟨w.heap.size, 0, none⟩ (by kernel_rfl) .i64 (Lib.nDigits u : Int) (by omega) (by rw [show (Tryz.prog).arrayLen 117 = 24 by kernel_rfl]; omega)]
      go_simp
    have hH0 := Lib.holds_zero0 w 117 (Lib.nDigits u) (by omega)
    have hfmt := Tryz.internal_strconv_formatBase10 w.heap.size 0 24 u (Array.replicate (Lib.nDigits u) 0) (w.alloc (.cells Lib.zeros24 117)) hH0 (by rw [Array.size_replicate]; exact Lib.lt_pow_nDigits u) hu64 (by rw [Array.size_replicate]; omega)
    rw [Array.size_replicate] at hfmt
    have HH0 := Lib.hid hH0
    have HFM := Lib.hid hfmt
    have HND := Lib.hid (Tryz.internal_strconv_numDigits u hu1 hu64 (w.alloc (.cells Lib.zeros24 117)) (Lib.tabIs_alloc htab _))
    clear hH0 hfmt
    go_enter Tryz.func50, Tryz.ntmps50
    go_wp2_with (go_at_call 67; refine HND.out.mono ?_; rintro e w' ⟨rfl, rfl⟩)
    go_at_call 68
    refine HFM.out.mono ?_
    rintro e w' ⟨rfl, k, v', dk, rfl, hF⟩
    have hcv : (convert 72 9 (.slice (some ⟨w.heap.size, 0, none⟩) (Lib.nDigits u) 24)).run Tryz.prog ((putRow (fun (b : UInt8) => Value.int .u8 (b.toNat : Int)) (w.alloc (.cells Lib.zeros24 117)) w.heap.size 0 dk).drewN k) = .ok (.string ⟨(Lib.decDigits u).toArray⟩) ((putRow (fun (b : UInt8) => Value.int .u8 (b.toNat : Int)) (w.alloc (.cells Lib.zeros24 117)) w.heap.size 0 dk).drewN k) := by
      have h := run_convert_bytes_back (P := Tryz.prog) ((putRow (fun (b : UInt8) => Value.int .u8 (b.toNat : Int)) (w.alloc (.cells Lib.zeros24 117)) w.heap.size 0 dk).drewN k) 72 9 5 ⟨w.heap.size, 0, none⟩ 24 (Lib.decDigits u) Tryz.underlying72 Tryz.underlying5 Tryz.underlying9 (fun j hj => by
        rw [Lib.row_is_numeral hF j hj, Lib.add_plain, World.cell?_drewN]
        exact cell?_putRow (fun (b : UInt8) => Value.int .u8 (b.toNat : Int)) _ w.heap.size 0 _ dk HH0.out (by rw [hF.size, Array.size_replicate]) j (by rw [hF.size]; rw [Lib.decDigits_length] at hj; exact hj))
      rw [Lib.decDigits_length] at h
      exact h
    have HI := Lib.hid (itoa_nat u)
    go_wp2
    go_ret
    obtain ⟨os, eo⟩ := Lib.fin_at w (.cells Lib.zeros24 117) dk k 0
    rw [HI.out]
    refine ⟨rfl, ?_⟩
    rw [eo]
    exact Lib.below_grow _ w (Nat.le_refl _) k os
theorem formatUint_any (v : Int) (h0 : 0 ≤ v) (h1 : v < 18446744073709551616) (w : World) (htab : Tab w) :
    Calls Tryz.prog 31 #[.int .u64 v, .int .i64 10] w fun e w' => e = .returned (.string ⟨(Lib.itoa v).toArray⟩) ∧ Below w.heap.size w w' := by
  obtain ⟨u, rfl⟩ : ∃ u : Nat, v = u := ⟨v.toNat, by omega⟩
  have H := Lib.hid (innerUint_any u (by omega) w htab)
  generalize Lib.itoa u = ds at *
  go_enter Tryz.func31, Tryz.ntmps31
  go_wp2_with (go_at_call 50; with_reducible refine H.out.mono ?_)
  first | rintro e w1 rfl hb1 | rintro e w1 ⟨rfl, hb1⟩
  go_wp2_with fail
  go_ret
  exact ⟨rfl, hb1⟩
theorem itoa_any (n : Int) (h0 : -9223372036854775808 ≤ n) (h1 : n ≤ 9223372036854775807) (w : World) (htab : Tab w) :
    Calls Tryz.prog 30 #[.int .i64 n] w fun e w' => e = .returned (.string ⟨(Lib.itoa n).toArray⟩) ∧ Below w.heap.size w w' := by
  refine (Tryz.strconv_Itoa n h0 h1 w htab).mono ?_
  rintro e w' ⟨rfl, k, os, rfl⟩
  exact ⟨rfl, Lib.below_grow _ w (Nat.le_refl _) k os⟩
end Go.Proofs.YtnkhiaikdmpimaaGreatDoor
