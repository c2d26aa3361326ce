/- strings.Cut at '='; slices.IndexFunc over a policy's parts. -/
import Derived.Test.YtnkhiaikdmpimaaGreatDoorCmdL
import Derived.Test.YtnkhiaikdmpimaaGreatDoorPolPlain
import Derived.Lib.CutLaws
namespace Go.Proofs.YtnkhiaikdmpimaaGreatDoor
open Go.RowKit Lx

set_option maxRecDepth 100000 in
theorem lcut_any (s : List UInt8) (hl : s.length ≤ 4000) (w : World) :
    Calls Tryz.prog 99 #[.string ⟨s.toArray⟩, .string ⟨#[61]⟩] w fun e w' => (∃ b, e = .returned (.tuple #[.string ⟨(cutEq s).1.toArray⟩, .string ⟨(cutEq s).2.toArray⟩, .bool b])) ∧ Below w.heap.size w w' := by
  have hc := cut_eq s
  have HIX := Lib.hid (fun w => Tryz.stringslite_Index_one ⟨s.toArray⟩ 61 w)
  rcases idx_split 61 s with ⟨hix, -⟩ | ⟨a, t, hst, hix, hno⟩
  · rw [show Lib.indexByte (⟨s.toArray⟩ : ByteArray).data.toList 61 = -1 from hix] at HIX
    have hcut : (cutEq s).1 = s ∧ (cutEq s).2 = [] := by
      rw [← hc.1, ← hc.2]
      unfold Lib.cut
      rw [index_one, hix, if_neg (by decide)]
      exact ⟨rfl, rfl⟩
    rw [hcut.1, hcut.2]
    clear hc hcut hix
    go_enter Tryz.func99, Tryz.ntmps99
    go_wp2_with (go_at_call 111; with_reducible refine (HIX.out _).mono ?_; rintro e w1 ⟨rfl, rfl⟩)
    go_ret3
    exact ⟨⟨_, rfl⟩, Below.refl _ _⟩
  · rw [show Lib.indexByte (⟨s.toArray⟩ : ByteArray).data.toList 61 = (a.length : Int) from hix] at HIX
    have hce : cutEq s = (a, t) := by rw [hst]; exact cutEq_word a t hno
    rw [hce]
    have hla : s.length = a.length + (t.length + 1) := by rw [hst]; simp
    have hcut1 : s.take a.length = a := by rw [hst]; simp
    have hcut2 : (s.take (a.length + (t.length + 1))).drop (a.length + 1) = t := by rw [← hla, List.take_length, hst, show a ++ 61 :: t = (a ++ [61]) ++ t by simp, show a.length + 1 = (a ++ [61]).length by simp, List.drop_left]
    clear hc hce hix hno hst
    go_enter Tryz.func99, Tryz.ntmps99
    go_wp2_with (go_at_call 111; with_reducible refine (HIX.out _).mono ?_; rintro e w1 ⟨rfl, rfl⟩)
    go_quiet (fail)
    go_wp2_with fail
    go_ret3
    exact ⟨⟨_, rfl⟩, bdrew (Below.refl _ _) _⟩

set_option maxRecDepth 100000 in
theorem cut_any (s : List UInt8) (hl : s.length ≤ 4000) (w : World) :
    Calls Tryz.prog 80 #[.string ⟨s.toArray⟩, .string ⟨#[61]⟩] w fun e w' => (∃ b, e = .returned (.tuple #[.string ⟨(cutEq s).1.toArray⟩, .string ⟨(cutEq s).2.toArray⟩, .bool b])) ∧ Below w.heap.size w w' := by
  have HC := Lib.hid (fun w => lcut_any s hl w)
  generalize (cutEq s).1 = a at *
  generalize (cutEq s).2 = t at *
  go_enter Tryz.func80, Tryz.ntmps80
  go_wp2_with (go_at_call 99; with_reducible refine (HC.out _).mono ?_; rintro e w1 ⟨⟨b, rfl⟩, hb1⟩)
  go_ret3
  exact ⟨⟨_, rfl⟩, hb1⟩

set_option maxRecDepth 100000 in
/-- the closure: is the part of this name -/
theorem part_is (x nm : List UInt8) (p : Value) (nb : Nat) (w : World) (hc : w.cell? ⟨nb, 0, none⟩ = some (.string ⟨nm.toArray⟩)) :
    Calls Tryz.prog 82 #[.agg #[.string ⟨x.toArray⟩, p], .pointer (some ⟨nb, 0, none⟩)] w fun e w' => e = .returned (.bool (x == nm)) ∧ Below w.heap.size w w' := by
  have hlt := World.block_lt_of_cell? w _ hc
  have hne : nb ≠ w.heap.size := by simp only at hlt; omega
  have HB := Lib.hid ((Below.refl w.heap.size w).alloc (Nat.le_refl _) (.cells #[.string ⟨x.toArray⟩, p] 98))
  by_cases h : x = nm
  · subst h
    have HE : Hid ((x == x) = true) := Lib.hid (by simp)
    rw [HE.out]
    go_enter Tryz.func82, Tryz.ntmps82
    go_wp2_with fail
    go_ret
    exact ⟨rfl, HB.out⟩
  · have hb : (x == nm) = false := by simpa using h
    rw [hb]
    go_enter Tryz.func82, Tryz.ntmps82
    go_wp2_with fail
    go_ret
    exact ⟨rfl, HB.out⟩

set_option maxHeartbeats 1000000 in
set_option maxRecDepth 100000 in
theorem find_any (i n o : Nat) (hin : i + n = 5) (ho : n = 0 ∨ o = i * 2) (g b c nb : Nat) (nm : List UInt8) (w : World) (hp : PartsAt w g b) (hc : w.cell? ⟨nb, 0, none⟩ = some (.string ⟨nm.toArray⟩)) :
    Calls Tryz.prog 81 #[.slice (some ⟨g, o, none⟩) n c, .func (.func 82) #[] #[.pointer (some ⟨nb, 0, none⟩)]] w fun e w' => e = .returned (.int .i64 (findI i nm)) ∧ Below w.heap.size w w' := by
  have HP := Lib.hid hp
  have HC := Lib.hid hc
  clear hp hc
  go_enter Tryz.func81, Tryz.ntmps81
  go_wp2_with fail
  go_loopg [8] n (fun gg vi wr => ∃ k : Nat, gg = n - k ∧ k ≤ n ∧ vi = .int .i64 k ∧ Hid (Below w.heap.size w wr) ∧ Hid (∀ j, j < k → polNames[i + j]? ≠ some nm))
  case atStart => exact ⟨0, rfl, Nat.zero_le _, rfl, Lib.hid (Below.refl _ _), Lib.hid (fun j hj => absurd hj (Nat.not_lt_zero _))⟩
  case round =>
    obtain ⟨k, hg, hk, rfl, HB, HN⟩ := hrel
    by_cases hlt : k < n
    · have hki : (k : Int) < (n : Int) := by omega
      have h5 : i + k < 5 := by omega
      obtain ⟨hc0, hc1⟩ := HP.out.below HB.out (i + k) h5
      rw [show (i + k) * 2 = o + k * 2 by omega] at hc0 hc1
      have hlen : i + k < polNames.length := h5
      have HX : Hid (polNames[i + k]? = some (polNames[i + k]'hlen)) := Lib.hid (List.getElem?_eq_getElem hlen)
      have hcn := kept_one HC.out HB.out
      generalize polNames[i + k]'hlen = x at *
      have HQ := Lib.hid (fun p => part_is x nm p nb wr hcn)
      cases hq : (x == nm) with
      | true =>
        rw [hq] at HQ
        have HF : Hid (findI i nm = (k : Int)) := Lib.hid (by
          have e : x = nm := by simpa using hq
          unfold findI
          rw [findName_hit i k nm h5 (by rw [HX.out, e]) HN.out]
          simp)
        clear hq hcn hlen
        go_wp2_with (go_at_call 82; with_reducible refine (HQ.out _).mono ?_; rintro e w1 ⟨rfl, hb1⟩)
        go_ret
        rw [HF.out]
        exact ⟨rfl, HB.out.trans (hb1.mono HB.out.size)⟩
      | false =>
        rw [hq] at HQ
        have HN2 : Hid (∀ j, j < k + 1 → polNames[i + j]? ≠ some nm) := Lib.hid (fun j hj e => by
          rcases Nat.lt_or_ge j k with h | h
          · exact HN.out j h e
          · obtain rfl : j = k := by omega
            rw [HX.out] at e
            injection e with e
            simp [e] at hq)
        clear hq hcn hlen
        go_wp2_with (go_at_call 82; with_reducible refine (HQ.out _).mono ?_; rintro e w1 ⟨rfl, hb1⟩)
        go_roundg (n - (k + 1))
        case measure => omega
        case rel => exact ⟨k + 1, rfl, hlt, by go_num, Lib.hid (HB.out.trans (hb1.mono HB.out.size)), HN2⟩
    · have hki : ¬ (k : Int) < (n : Int) := by omega
      have HF : Hid (findI i nm = -1) := Lib.hid (by
        unfold findI
        rw [findName_miss i nm (fun j hj => HN.out j (by omega))])
      go_wp2_with fail
      go_ret
      rw [HF.out]
      exact ⟨rfl, HB.out⟩
end Go.Proofs.YtnkhiaikdmpimaaGreatDoor
