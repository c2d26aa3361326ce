/- lex.Split. -/
import Derived.Test.YtnkhiaikdmpimaaGreatDoorLexF
namespace Go.Proofs.YtnkhiaikdmpimaaGreatDoor
open Go.RowKit Lx

/-- what Split hands back -/
def Words (w : World) (B : Nat) (line : List UInt8) (e : Ending) : Prop :=
  if 1000 < line.length then e = .returned (.tuple #[.slice none 0 0, .int .i64 4])
  else match splitB line with
    | none => e = .returned (.tuple #[.slice none 0 0, .int .i64 3])
    | some ws => ∃ v, e = .returned (.tuple #[v, .int .i64 0]) ∧ w.ownsRow B 62 2 v ws.length (wcells ws)

theorem bare_len {c : UInt8} {r : List UInt8} (h : blankB c = false) : (behindOf (c :: r)).length < (c :: r).length := by
  have := behind_lt (r := r) h; simp only [List.length_cons]; omega

set_option maxHeartbeats 1000000 in
set_option maxRecDepth 100000 in
theorem split_any (line : List UInt8) (hl : line.length ≤ 9223372036854775807) (w : World) :
    Calls Tryz.prog 24 #[.string ⟨line.toArray⟩] w fun e w' => Words w' w.heap.size line e ∧ Below w.heap.size w w' := by
  by_cases hlong : 1000 < line.length
  · have hl1 : (1000 : Int) < (line.length : Int) := by omega
    go_enter Tryz.func24, Tryz.ntmps24
    go_wp2
    go_ret2
    exact ⟨by unfold Words; rw [if_pos hlong]; rfl, Below.refl _ _⟩
  have hfin : ∀ w' e, (match splitB line with | none => e = .returned (.tuple #[.slice none 0 0, .int .i64 3]) | some ws => ∃ v, e = .returned (.tuple #[v, .int .i64 0]) ∧ w'.ownsRow w.heap.size 62 2 v ws.length (wcells ws)) → Words w' w.heap.size line e := by
    intro w' e h; unfold Words; rw [if_neg hlong]; exact h
  have HF := Lib.hid hfin
  have hl1 : (line.length : Int) ≤ 1000 := by omega
  clear hfin
  go_enter Tryz.func24, Tryz.ntmps24
  go_wp2_with fail

  go_loopg [2, 3] (line.length + 1) (fun g _ _ wr => Below w.heap.size w wr ∧
    ((∃ s l, Scan wr w.heap.size w.heap.size s l true ∧ splitB line = none ∧ g = 0) ∨
     ∃ s l, Scan wr w.heap.size w.heap.size s l false ∧ splitFrom l s = splitB line ∧ l.length + s.length ≤ line.length ∧ g = s.length + 1))
  case atStart =>
    refine ⟨(Below.refl _ _).alloc (Nat.le_refl _) _, .inr ⟨line, [], ⟨Nat.le_refl _, .slice none 0 0, heap_alloc_new _ _, ⟨rfl, .inl ⟨rfl, rfl⟩⟩, by simp [Value.ownBlock]⟩, rfl, by simp, rfl⟩⟩
  case round =>
    obtain ⟨hbel, ⟨s, l, hS, hnone, rfl⟩ | ⟨s, l, hS, heq, hle, rfl⟩⟩ := hrel
    · have c0 : wr.cell? ⟨w.heap.size, 0, none⟩ = some (.string ⟨s.toArray⟩) := by
        obtain ⟨_, v, hk, _⟩ := hS
        rw [Lib.cell_of_heap hk]; rfl
      have HS := Lib.hid hS
      have HB := Lib.hid hbel
      have HN := Lib.hid hnone
      have hsz := hbel.size
      have hsz2 := hS.lt
      clear hS hbel hnone
      go_wp2_with fail
      refine (trimLeft_any _ _).mono ?_
      rintro e w' ⟨rfl, hb⟩
      have hS2 := HS.out.below hb
      have HB2 := Lib.hid (HB.out.trans (hb.mono hsz))
      obtain ⟨_, v2, hk2, _⟩ := hS2
      have d0 := Lib.cell_of_heap hk2 0
      have d2 := Lib.cell_of_heap hk2 2
      have f0 := Lib.frozen_of_heap hk2 0
      clear hk2 hb c0
      go_wp2_with fail
      go_ret2
      refine ⟨HF.out _ _ ?_, HB2.out.setCell (p := ⟨w.heap.size, 0, none⟩) (Nat.le_refl _) _⟩
      rw [HN.out]; rfl
    · have c0 : wr.cell? ⟨w.heap.size, 0, none⟩ = some (.string ⟨s.toArray⟩) := by
        obtain ⟨_, v, hk, _⟩ := hS
        rw [Lib.cell_of_heap hk]; rfl
      have HS := Lib.hid hS
      have HB := Lib.hid hbel
      have HE := Lib.hid heq
      have hsz := hbel.size
      have hsz2 := hS.lt
      clear hS hbel heq
      go_wp2_with fail
      refine (trimLeft_any _ _).mono ?_
      rintro e w' ⟨rfl, hb⟩
      have hS2 := HS.out.below hb
      have HB2 := Lib.hid (show Below w.heap.size w (w'.setCell ⟨w.heap.size, 0, none⟩ (.string ⟨(trimL s).toArray⟩)) from (HB.out.trans (hb.mono hsz)).setCell (p := ⟨w.heap.size, 0, none⟩) (Nat.le_refl _) _)
      have HS3 := Lib.hid (hS2.setS (trimL s))
      have hsz3 := hS2.lt
      obtain ⟨_, v2, hk2, hown2, _⟩ := hS2
      have d0 := Lib.cell_of_heap hk2 0
      have d1 := Lib.cell_of_heap hk2 1
      have d2 := Lib.cell_of_heap hk2 2
      have f0 := Lib.frozen_of_heap hk2 0
      have HK := Lib.hid hk2
      have HO := Lib.hid hown2
      have hlen := length_trimL s
      have hq := splitFrom_eq l s
      clear hk2 hb c0 hown2
      obtain ⟨t, ht⟩ : ∃ t, trimL s = t := ⟨_, rfl⟩
      rw [ht] at hq hlen HB2 HS3 ⊢
      have HT := Lib.hid ht
      have HQ := Lib.hid hq
      clear ht hq
      obtain rfl | ⟨c, r, rfl⟩ : t = [] ∨ ∃ c r, t = c :: r := by cases t <;> simp
      · go_wp2_with fail
        go_ret2
        refine ⟨HF.out _ _ ?_, HB2.out⟩
        have hq := HQ.out
        rw [← HE.out, hq]
        exact ⟨_, rfl, own_setCell (a := ⟨w.heap.size, 0, none⟩) HO.out ‹_› _⟩
      · have hcb := head_trimL HT.out
        simp only [List.length_cons] at hlen
        by_cases h1 : c = 35
        · subst h1
          go_wp2_with fail
          go_ret2
          refine ⟨HF.out _ _ ?_, HB2.out⟩
          have hq := HQ.out
          first | rw [if_pos rfl] at hq | rw [if_pos trivial] at hq
          rw [← HE.out, hq]
          exact ⟨_, rfl, own_setCell (a := ⟨w.heap.size, 0, none⟩) HO.out ‹_› _⟩
        have g1 : ((c.toNat : Int) == 35) = false := byte_ne (k := 35) h1
        by_cases h2 : c = 34
        · subst h2
          go_wp2_with fail
          refine (quoted_any _ _ _ _ _ HS3.out (by simp [World.setCell]; omega) (by omega) (by omega)).mono ?_
          rintro e w3 ⟨rfl, hb3, hA3⟩
          have HB3 := Lib.hid (HB2.out.trans hb3)
          have hq := HQ.out
          rw [if_neg h1] at hq
          first | rw [if_pos rfl] at hq | rw [if_pos trivial] at hq
          have HA3 := Lib.hid hA3
          have hgo : ∃ g, g < s.length + 1 ∧ ((∃ s l, Scan w3 w.heap.size w.heap.size s l true ∧ splitB line = none ∧ g = 0) ∨
              ∃ s l, Scan w3 w.heap.size w.heap.size s l false ∧ splitFrom l s = splitB line ∧ l.length + s.length ≤ line.length ∧ g = s.length + 1) := by
            have hA := HA3.out
            cases hc : qscan [] r with
            | none =>
              rw [hc] at hA hq
              obtain ⟨s', l', hs', _⟩ := hA
              exact ⟨0, by omega, .inl ⟨s', l', hs', by rw [← HE.out, hq], rfl⟩⟩
            | some p =>
              obtain ⟨t', r'⟩ := p
              rw [hc] at hA hq
              have hql := q_len (Nat.le_refl _) hc
              simp only [List.length_nil] at hql
              exact ⟨r'.length + 1, by omega, .inr ⟨r', _, hA, by rw [← HE.out, hq], by simp only [List.length_append, List.length_cons, List.length_nil]; omega, rfl⟩⟩
          obtain ⟨g, hg, hrel⟩ := hgo
          have HR := Lib.hid hrel
          clear hb3 hq hA3 hrel
          go_wp2_with fail
          go_roundg g
          case measure => exact hg
          case rel => exact ⟨HB3.out, HR.out⟩
        have g2 : ((c.toNat : Int) == 34) = false := byte_ne (k := 34) h2
        have HCB := Lib.hid hcb
        clear hcb
        go_wp2_with fail
        refine (bare_any _ _ _ _ _ HS3.out (by simp [World.setCell]; omega) (by simp only [List.length_cons]; omega) (by omega)).mono ?_
        rintro e w3 ⟨rfl, hb3, hA3⟩
        have HB3 := Lib.hid (HB2.out.trans hb3)
        have hq := HQ.out
        rw [if_neg h1, if_neg h2] at hq
        have HA3 := Lib.hid hA3
        have hgo : ∃ g, g < s.length + 1 ∧ ((∃ s l, Scan w3 w.heap.size w.heap.size s l true ∧ splitB line = none ∧ g = 0) ∨
            ∃ s l, Scan w3 w.heap.size w.heap.size s l false ∧ splitFrom l s = splitB line ∧ l.length + s.length ≤ line.length ∧ g = s.length + 1) := by
          have hA := HA3.out
          cases hc : bareWord (wordOf (c :: r)) with
          | false =>
            rw [hc] at hA hq
            exact ⟨0, by omega, .inl ⟨_, _, hA, by rw [← HE.out, hq]; rfl, rfl⟩⟩
          | true =>
            rw [hc] at hA hq
            have hbl := behind_lt (r := r) HCB.out
            exact ⟨(behindOf (c :: r)).length + 1, by omega, .inr ⟨_, _, hA, by rw [← HE.out, hq]; rfl, by simp only [List.length_append, List.length_cons, List.length_nil]; omega, rfl⟩⟩
        obtain ⟨g, hg, hrel⟩ := hgo
        have HR := Lib.hid hrel
        clear hb3 hq hA3 hrel
        go_wp2_with fail
        go_roundg g
        case measure => exact hg
        case rel => exact ⟨HB3.out, HR.out⟩
end Go.Proofs.YtnkhiaikdmpimaaGreatDoor
