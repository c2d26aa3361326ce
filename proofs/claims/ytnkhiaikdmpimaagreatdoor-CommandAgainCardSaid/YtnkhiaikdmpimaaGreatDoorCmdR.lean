/- cauterylaw34.alive. -/
import Derived.Test.YtnkhiaikdmpimaaGreatDoorCmdQ
namespace Go.Proofs.YtnkhiaikdmpimaaGreatDoor
open Go.RowKit Lx

def cmdS : Cmd := { Cmd.zero with verb := v_scrub }
theorem text_cmdS : textB cmdS = (v_scrub, 0) := by decide +kernel

set_option maxHeartbeats 4000000 in
set_option maxRecDepth 100000 in
theorem alive34_any (w : World) (hv : HasErr w) (ht : Tab w) :
    Calls Tryz.prog 7 #[] w fun e w' => e = .returned (.bool true) ∧ Below w.heap.size w w' := by
  have HP1 : Hid (∀ W, HasErr W → Tab W → Calls Tryz.prog 13 #[.string ⟨#[111, 116, 104, 101, 114, 32, 119, 114, 105, 116, 101, 32, 97, 32, 51, 32, 34, 120, 32, 121, 34]⟩] W fun e w' => e = .returned (.tuple #[.agg #[.bool true, .string ⟨#[119, 114, 105, 116, 101]⟩, .string ⟨#[97]⟩, .string ⟨#[]⟩, .string ⟨#[]⟩, .string ⟨#[120, 32, 121]⟩, .int .i64 3, .int .u64 0, .int .i64 0, .int .i64 0, .int .i64 0, .int .i64 0, .int .i64 0], .int .i64 0]) ∧ Below W.heap.size W w') := Lib.hid (fun W h1 h2 => parse_lineA W h1 h2)
  have HP2 : Hid (∀ W, Calls Tryz.prog 13 #[.string ⟨#[]⟩] W fun e w' => e = .returned (.tuple #[.agg #[.bool false, .string ⟨#[]⟩, .string ⟨#[]⟩, .string ⟨#[]⟩, .string ⟨#[]⟩, .string ⟨#[]⟩, .int .i64 0, .int .u64 0, .int .i64 0, .int .i64 0, .int .i64 0, .int .i64 0, .int .i64 0], .int .i64 5]) ∧ Below W.heap.size W w') := Lib.hid (fun W => parse_nil W)
  have HTX : Hid (∀ W, Tab W → Calls Tryz.prog 8 #[.agg #[.bool false, .string ⟨#[115, 99, 114, 117, 98]⟩, .string ⟨#[]⟩, .string ⟨#[]⟩, .string ⟨#[]⟩, .string ⟨#[]⟩, .int .i64 0, .int .u64 0, .int .i64 0, .int .i64 0, .int .i64 0, .int .i64 0, .int .i64 0]] W fun e w' => e = .returned (.tuple #[.string ⟨#[115, 99, 114, 117, 98]⟩, .int .i64 0]) ∧ Below W.heap.size W w') := Lib.hid (fun W h => by
    have h1 := text_any cmdS ⟨by decide, by decide⟩ W h
    rw [text_cmdS] at h1
    exact h1)
  have HV := Lib.hid hv
  have HT := Lib.hid ht
  clear hv ht
  go_enter Tryz.func7, Tryz.ntmps7
  go_wp2_with (go_at_call 13; with_reducible refine (HP1.out _ HV.out HT.out).mono ?_)
  first | rintro e w1 rfl hb1 | rintro e w1 ⟨rfl, hb1⟩
  have HB1 := Lib.hid hb1
  have hs1 := hb1.size
  clear hb1
  go_wp2_with (go_at_call 13; with_reducible refine (HP2.out _).mono ?_)
  first | rintro e w2 rfl hb2 | rintro e w2 ⟨rfl, hb2⟩
  have hx2 := box_below hb2
  have hB2 : Below w.heap.size w w2 := (HB1.out.alloc hs1 _).trans (hb2.mono (by rw [World.size_alloc]; omega))
  have hb2s : w1.heap.size < w2.heap.size := by have := hb2.size; rw [World.size_alloc] at this; omega
  have a0 := box_at hx2 0 _ rfl; have a1 := box_at hx2 1 _ rfl; have a2 := box_at hx2 2 _ rfl; have a5 := box_at hx2 5 _ rfl; have a6 := box_at hx2 6 _ rfl
  have HB2 := Lib.hid hB2
  have hs2 := hB2.size
  have HT2 := Lib.hid (fun o => (HT.out.below (hB2.alloc hs2 o)))
  clear hb2 hx2 hB2
  go_wp2_with (go_at_call 8; with_reducible refine (HTX.out _ (HT2.out _)).mono ?_)
  first | rintro e w3 rfl hb3 | rintro e w3 ⟨rfl, hb3⟩
  have hB23 : ∀ o, Below w2.heap.size w2 (w2.alloc o) := fun o => (Below.refl _ _).alloc (Nat.le_refl _) o
  have hb23 := (hB23 _).trans (hb3.mono (by rw [World.size_alloc]; omega))
  have b0 : w3.cell? ⟨w1.heap.size, 0, none⟩ = some (.bool true) := kept_one a0 hb23
  have b1 : w3.cell? ⟨w1.heap.size, 1, none⟩ = some (.string ⟨#[119, 114, 105, 116, 101]⟩) := kept_one a1 hb23
  have b2 : w3.cell? ⟨w1.heap.size, 2, none⟩ = some (.string ⟨#[97]⟩) := kept_one a2 hb23
  have b5 : w3.cell? ⟨w1.heap.size, 5, none⟩ = some (.string ⟨#[120, 32, 121]⟩) := kept_one a5 hb23
  have b6 : w3.cell? ⟨w1.heap.size, 6, none⟩ = some (.int .i64 3) := kept_one a6 hb23
  have HB3 := Lib.hid (HB2.out.trans (hb23.mono hs2))
  clear a0 a1 a2 a5 a6 hb3 hB23 hb23
  go_wp2_with fail
  go_ret
  exact ⟨rfl, HB3.out⟩
end Go.Proofs.YtnkhiaikdmpimaaGreatDoor
