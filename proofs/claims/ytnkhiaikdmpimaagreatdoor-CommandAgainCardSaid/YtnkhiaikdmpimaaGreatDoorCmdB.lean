/- cauteryref34.has, name, number. -/
import Derived.Test.YtnkhiaikdmpimaaGreatDoorCmdA
namespace Go.Proofs.YtnkhiaikdmpimaaGreatDoor
open Go.RowKit Lx

set_option maxHeartbeats 400000 in
theorem rhas_any (l : List UInt8) (hl : l.length ≤ 1000) (p : UInt8) (w : World) :
    Calls Tryz.prog 22 #[.string ⟨l.toArray⟩, .int .u8 p.toNat] w fun e w' => e = .returned (.bool (l.any (· == p))) ∧ w = w' := by
  go_enter Tryz.func22, Tryz.ntmps22
  go_wp2_with fail
  go_loop [5] (fun i => ∃ k : Nat, k ≤ l.length ∧ i = .int .i64 k ∧ (l.take k).any (· == p) = false) (fun i => l.length - (intOf i).toNat)
  case atStart => exact ⟨0, Nat.zero_le _, rfl, rfl⟩
  case round =>
    obtain ⟨k, hk, rfl, hall⟩ := hrel
    have HA := Lib.hid hall
    clear hall
    by_cases hlt : k < l.length
    · have hki : (k : Int) < (l.length : Int) := by omega
      have hsn : (l.take (k + 1)).any (· == p) = ((l.take k).any (· == p) || l[k] == p) := by
        rw [List.take_succ_eq_append_getElem hlt, List.any_append]; simp only [List.any_cons, List.any_nil, Bool.or_false]
      have HS := Lib.hid hsn
      clear hsn
      by_cases hc : l[k] = p
      · have hany : l.any (· == p) = true := List.any_eq_true.2 ⟨l[k], List.getElem_mem _, by simpa using hc⟩
        have HY := Lib.hid hany
        have hg : ((l[k].toNat : Int) == (p.toNat : Int)) = true := by rw [hc]; simp
        clear hany hc
        go_wp2_with fail
        go_ret
        exact ⟨ret_bool HY.out.symm, rfl⟩
      · have hg : ((l[k].toNat : Int) == (p.toNat : Int)) = false := by
          simp only [beq_eq_false_iff_ne, ne_eq]
          intro e; apply hc; apply UInt8.toNat_inj.1; omega
        have hb : (l[k] == p) = false := by simpa using hc
        have HB := Lib.hid hb
        clear hc hb
        go_wp2_with fail
        go_round
        case rel => exact ⟨k + 1, hlt, by go_num, by rw [HS.out, HA.out, HB.out]; rfl⟩
        case measure => simp [intOf]; omega
    · have hki : ¬ (k : Int) < (l.length : Int) := by omega
      have hall : l.any (· == p) = false := by have := HA.out; rwa [List.take_of_length_le (by omega)] at this
      have HF := Lib.hid hall
      clear hall HA
      go_wp2_with fail
      go_ret
      exact ⟨ret_bool HF.out.symm, rfl⟩

theorem rname_any (s : List UInt8) (is : Bool) (w : World) :
    Calls Tryz.prog 21 #[.string ⟨s.toArray⟩, .bool is] w fun e w' => e = .returned (.bool (nameB s is)) ∧ w = w' := by
  cases is with
  | true =>
    by_cases h1 : 1 ≤ s.length
    · have h1i : (1 : Int) ≤ (s.length : Int) := by omega
      by_cases h2 : s.length ≤ 12
      · have h2i : (s.length : Int) ≤ 12 := by omega
        have hn : nameB s true = true := by simp [nameB, h1, h2]
        rw [hn]; clear hn
        go_enter Tryz.func21, Tryz.ntmps21
        go_wp2_with fail
        go_ret
        exact ⟨rfl, rfl⟩
      · have h2i : decide ((s.length : Int) ≤ 12) = false := by simp; omega
        have hn : nameB s true = false := by simp [nameB, h2]
        rw [hn]; clear hn
        go_enter Tryz.func21, Tryz.ntmps21
        go_wp2_with fail
        go_ret
        exact ⟨rfl, rfl⟩
    · obtain rfl : s = [] := List.eq_nil_of_length_eq_zero (by omega)
      go_enter Tryz.func21, Tryz.ntmps21
      go_wp2_with fail
      go_ret
      exact ⟨rfl, rfl⟩
  | false =>
    cases s with
    | nil =>
      go_enter Tryz.func21, Tryz.ntmps21
      go_wp2_with fail
      go_ret
      exact ⟨rfl, rfl⟩
    | cons c r =>
      go_enter Tryz.func21, Tryz.ntmps21
      go_wp2_with fail
      go_ret
      exact ⟨rfl, rfl⟩
theorem rnumber34_any (n : Int) (w : World) :
    Calls Tryz.prog 23 #[.int .i64 n] w fun e w' => e = .returned (.bool (numB n)) ∧ w = w' := by
  unfold numB
  by_cases h1 : 0 ≤ n
  · by_cases h2 : n ≤ 9999
    · rw [decide_eq_true h1, decide_eq_true h2]
      go_enter Tryz.func23, Tryz.ntmps23
      go_wp2_with fail
      go_ret
      exact ⟨rfl, rfl⟩
    · rw [decide_eq_true h1, decide_eq_false h2]
      have h2' : decide (n ≤ 9999) = false := decide_eq_false h2
      go_enter Tryz.func23, Tryz.ntmps23
      go_wp2_with fail
      go_ret
      exact ⟨rfl, rfl⟩
  · rw [decide_eq_false h1]
    have h1' : decide (0 ≤ n) = false := decide_eq_false h1
    go_enter Tryz.func23, Tryz.ntmps23
    go_wp2_with fail
    go_ret
    exact ⟨rfl, rfl⟩
end Go.Proofs.YtnkhiaikdmpimaaGreatDoor
