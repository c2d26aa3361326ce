/- (*scanner).bare AND lex.Split. -/
import Derived.Test.YtnkhiaikdmpimaaGreatDoorLexE
namespace Go.Proofs.YtnkhiaikdmpimaaGreatDoor
open Go.RowKit Lx

theorem Scan.drew1 {w : World} {B b : Nat} {s : List UInt8} {l : List W} {bad : Bool} (h : Scan w B b s l bad) : Scan w.drew B b s l bad := h
set_option maxHeartbeats 1000000 in
set_option maxRecDepth 100000 in
theorem bare_any (B b : Nat) (s : List UInt8) (l : List W) (w : World) (hs : Scan w B b s l false) (hB : B ≤ w.heap.size) (hr : s.length ≤ 1000) (hl : l.length ≤ 1000) :
    Calls Tryz.prog 41 #[.pointer (some ⟨b, 0, none⟩)] w fun e w' => e = .returned (.tuple #[]) ∧ Below B w w' ∧ Scan w' B b (behindOf s) (l ++ [⟨wordOf s, false⟩]) (!bareWord (wordOf s)) := by
  obtain ⟨i0, hi0, hz0, hz1, hz2⟩ := info_parts infoWord
  have hlt := hs.lt
  have HI := Lib.hid hi0
  have HI1 := Lib.hid hz0; have HI2 := Lib.hid hz1; have HI3 := Lib.hid hz2
  clear hi0 hz0 hz1 hz2
  have c0 : w.cell? ⟨b, 0, none⟩ = some (.string ⟨s.toArray⟩) := by
    obtain ⟨_, v, hblk, _⟩ := hs
    rw [Lib.cell_of_heap hblk]; rfl
  have HS := Lib.hid hs
  clear hs
  go_enter Tryz.func41, Tryz.ntmps41
  go_wp2_with fail
  refine (indexAny_any _ (by simp [ByteArray.size]; omega) _).mono ?_
  rintro e w' ⟨rfl, hb⟩
  have hS2 := HS.out.below hb
  have hB2 : Below B w w' := hb.mono hB
  clear c0
  rw [show (⟨s.toArray⟩ : ByteArray).data.toList = s from by simp]
  have hix := index_tabs s
  generalize hgx : Lib.indexAny s tabs = ix at hix
  have HIX := Lib.hid hix

  have c0 : w'.cell? ⟨b, 0, none⟩ = some (.string ⟨s.toArray⟩) := by
    obtain ⟨_, v, hblk, _⟩ := hS2
    rw [Lib.cell_of_heap hblk]; rfl
  have HS2 := Lib.hid hS2
  have HB2 := Lib.hid hB2
  clear hix hgx hS2 hB2 hb
  go_upto_if 10 with fail
  go_cut [2] (fun v wx => ∃ k : Nat, v = .int .i64 k ∧ k ≤ s.length ∧ s.take k = wordOf s ∧ s.drop k = behindOf s ∧ w' = wx)
  case first =>
    rcases HIX.out with ⟨h1, h2, h3⟩ | ⟨h1, h2, h3, h4⟩
    · subst h1
      have H2 := Lib.hid h2; have H3 := Lib.hid h3
      clear h2 h3
      go_wp2_with fail
      go_meet
      exact ⟨s.length, rfl, Nat.le_refl _, by rw [List.take_length]; exact H2.out.symm, by rw [List.drop_length]; exact H3.out.symm, rfl⟩
    · subst h1
      have H3 := Lib.hid h3; have H4 := Lib.hid h4
      clear h3 h4
      go_wp2_with fail
      go_meet
      exact ⟨(wordOf s).length, rfl, h2, H3.out, H4.out, rfl⟩
  case rest =>
    obtain ⟨k, rfl, hk, h1, h2, rfl⟩ := hcut
    have H1 := Lib.hid h1
    have H2 := Lib.hid h2
    clear h1 h2
    have hlt2 := HS2.out.lt
    obtain ⟨hBb, v2, hk2, _, _⟩ := HS2.out
    have d0 : w'.cell? ⟨b, 0, none⟩ = some (.string ⟨s.toArray⟩) := by rw [Lib.cell_of_heap hk2]; rfl
    have d2 : w'.cell? ⟨b, 2, none⟩ = some (.bool false) := by rw [Lib.cell_of_heap hk2]; rfl
    have g0 := Lib.frozen_of_heap hk2 0
    have g2 := Lib.frozen_of_heap hk2 2
    have hk' : (k : Int) ≤ (s.length : Int) := by omega
    have hk0 : (0 : Int) ≤ (k : Int) := by omega
    have hlk : (s.take k).length ≤ 2000 := by rw [List.length_take]; omega
    have hz2 := HB2.out.size
    clear hk2
    go_upto_region 4 with fail
    go_cut [3] (fun v wx => v = .string ⟨(s.take k).toArray⟩ ∧ Below B w wx ∧ Scan wx B b (behindOf s) l (!bareWord (wordOf s)))
    case first =>
      go_region_law ((go_simp; go_at_call 46; refine (isBareWord_any _ hlk _).mono ?_; rintro e w2 ⟨rfl, hb2⟩; have hS3 := Scan.below (Scan.drew1 HS2.out) hb2; have hB3 := HB2.out.drew.trans (hb2.mono (by simp; omega)); have H3 := Lib.hid hS3; have H4 := Lib.hid hB3; obtain ⟨_, v3, hk3, hown3, hne3⟩ := hS3; have e0 := Lib.cell_of_heap hk3 0; have e2 := Lib.cell_of_heap hk3 2; have f0 := Lib.frozen_of_heap hk3 0; have f2 := Lib.frozen_of_heap hk3 2; clear hk3 hown3 hne3 hB3 hb2))
      all_goals
        go_wp2_with fail
        go_meet
        exact ⟨rfl, (H4.out.setCell (p := ⟨b, 0, none⟩) hBb _).setCell (p := ⟨b, 2, none⟩) hBb _, by rw [← H2.out, ← H1.out]; exact (H3.out.setS _).setBad _⟩
    case rest =>
      obtain ⟨rfl, hb, hS⟩ := hcut
      have HB := Lib.hid hb
      have hltc := hS.lt
      obtain ⟨_, v3, hk3, hown3, hne3⟩ := hS
      have d1 : wc.cell? ⟨b, 1, none⟩ = some v3 := by rw [Lib.cell_of_heap hk3]; rfl
      have HV3 := Lib.hid hown3
      have HN3 := Lib.hid hne3
      have HK3 := Lib.hid hk3
      have hm1 : l.length + 1 ≤ maxLen := by unfold maxLen; omega
      have hm2 : (l.length + 1) * 24 ≤ 140737488355328 := by omega
      have hm3 := hb.size
      clear d0 d2 g0 g2 hk3 hown3 hne3 hb
      go_wp2_with (at_builtin; refine wpList_append_lies _ rfl _ _ _ rfl B 62 i0 _ 2 24 Tryz.underlying57 HI.out HI1.out HI2.out HI3.out rfl (by omega) v3 l.length (wcells l) rfl (by exact own_alloc HV3.out _) ⟨wc.heap.size, 0, none⟩ 1 1 [.string ⟨(s.take k).toArray⟩, .bool false] rfl rfl (World.news_of_block (cs := #[.string ⟨(s.take k).toArray⟩, .bool false]) (t := 62) (fr := (0, 0)) (heap_alloc_new _ _)) (by simp [Value.oneCell']) (by omega) hm1 hm2 (by simp; omega) (wc.heap.size + 1) (by simp) ?_; intro gg cap w1 hown1 hgrow hat hlt1; have hk1 := (hgrow.block b (by simp; omega) (Ne.symm HN3.out)).trans ((Below.heap_alloc wc _ b hltc).trans HK3.out); have e1 := Lib.cell_of_heap hk1 1; have e2 := Lib.frozen_of_heap hk1 1; have HK1 := Lib.hid hk1; clear hk1)
      go_end0
      refine ⟨rfl, ((((HB.out.alloc (by omega) _)).grown hgrow (by simp; omega) (fun g hg => (own_lt HV3.out hg).1)).setCell (p := ⟨b, 1, none⟩) hBb _), ?_⟩
      rw [← H1.out] at HK1 ⊢
      exact Scan.put ⟨s.take k, false⟩ hBb HK1.out hown1 rfl
end Go.Proofs.YtnkhiaikdmpimaaGreatDoor
