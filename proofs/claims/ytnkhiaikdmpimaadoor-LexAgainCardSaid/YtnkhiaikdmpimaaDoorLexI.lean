/- THE REFERENCE'S Split. -/
import Derived.Test.YtnkhiaikdmpimaaDoorLexH
import Derived.Deep.CutBlock
namespace Go.Proofs.YtnkhiaikdmpimaaDoor
open Go.RowKit Lx

def RWords (w : World) (B : Nat) (line : List UInt8) (e : Ending) : Prop :=
  if 1000 < line.length then e = .returned (.tuple #[.slice none 0 0, .int .i64 4])
  else match splitB line with
    | none => e = .returned (.tuple #[.slice none 0 0, .int .i64 3])
    | some ws => ∃ v, e = .returned (.tuple #[v, .int .i64 0]) ∧ w.ownsRow B 49 2 v ws.length (wcells ws)
theorem infoRWord : (Tryd.prog.info? 49).map (fun i => (i.zero, i.size, i.bytes)) = some (some (.agg #[.string ByteArray.empty, .bool false]), 2, 24) := by kernel_rfl

theorem word_part {p u : List UInt8} (h : p.all bareB = true) : wordOf (p ++ u) = p ++ wordOf u ∧ behindOf (p ++ u) = behindOf u := by
  induction p with
  | nil => exact ⟨rfl, rfl⟩
  | cons c p ih =>
    simp only [List.all_cons, Bool.and_eq_true] at h
    have hb := bare_not_blank h.1
    have := ih h.2
    unfold wordOf behindOf at this ⊢
    simp [hb, this]
theorem word_stop {u : List UInt8} (h : u = [] ∨ ∃ d t, u = d :: t ∧ blankB d = true) : wordOf u = [] ∧ behindOf u = u := by
  rcases h with rfl | ⟨d, t, rfl, hd⟩
  · exact ⟨rfl, rfl⟩
  · unfold wordOf behindOf; simp [hd]
/-- one word more of a line -/
theorem split_word {ws : List W} {c : UInt8} {r p u : List UInt8} (hc : blankB c = false) (h35 : c ≠ 35) (h34 : c ≠ 34) (hpu : c :: r = p ++ u) (hp : p.all bareB = true)
    (hu : u = [] ∨ ∃ d t, u = d :: t ∧ blankB d = true) : splitFrom ws (c :: r) = splitFrom (ws ++ [⟨p, false⟩]) u := by
  have ht : trimL (c :: r) = c :: r := by unfold trimL; rw [List.dropWhile_cons, if_neg (by rw [hc]; decide)]
  rw [splitFrom_eq, ht]
  simp only
  rw [if_neg h35, if_neg h34, hpu]
  obtain ⟨h1, h2⟩ := word_part (u := u) hp
  obtain ⟨h3, h4⟩ := word_stop hu
  rw [h1, h2, h3, h4, List.append_nil]
  have hne : p ≠ [] := by
    rintro rfl
    rcases hu with rfl | ⟨d, t, rfl, hd⟩
    · cases hpu
    · simp only [List.nil_append, List.cons.injEq] at hpu
      rw [hpu.1, hd] at hc; cases hc
  have hb : bareWord p = true := by
    rw [bareWord_iff]
    refine ⟨hne, ?_, fun d hd => by rw [List.all_eq_true] at hp; exact hp d hd⟩
    cases p with
    | nil => exact absurd rfl hne
    | cons d p =>
      simp only [List.cons_append, List.cons.injEq] at hpu
      rw [List.head?_cons, ← hpu.1]
      simpa using h35
  rw [if_pos hb]
theorem split_wrong {ws : List W} {c d : UInt8} {r p u : List UInt8} (hc : blankB c = false) (h35 : c ≠ 35) (h34 : c ≠ 34) (hpu : c :: r = p ++ d :: u) (hp : p.all bareB = true)
    (hd : blankB d = false) (hn : bareB d = false) : splitFrom ws (c :: r) = none := by
  have ht : trimL (c :: r) = c :: r := by unfold trimL; rw [List.dropWhile_cons, if_neg (by rw [hc]; decide)]
  rw [splitFrom_eq, ht]
  simp only
  rw [if_neg h35, if_neg h34, hpu]
  have hb : bareWord (wordOf (p ++ d :: u)) = false := by
    rw [(word_part (u := d :: u) hp).1]
    have : wordOf (d :: u) = d :: wordOf u := by unfold wordOf; simp [hd]
    rw [this, ← Bool.not_eq_true, bareWord_iff]
    rintro ⟨_, _, h⟩
    have := h d (by simp)
    rw [hn] at this; cases this
  rw [if_neg (by rw [hb]; decide)]
theorem split_quoted {ws : List W} {r : List UInt8} : splitFrom ws (34 :: r) = match qscan [] r with
    | some (w, t) => splitFrom (ws ++ [⟨w, true⟩]) t
    | none => none := by
  have ht : trimL (34 :: r) = 34 :: r := by unfold trimL; rw [List.dropWhile_cons, if_neg (by decide)]
  rw [splitFrom_eq, ht]
  simp only
  rw [if_neg (by decide)]
  first | rw [if_pos rfl] | rw [if_pos trivial]
  rfl
theorem split_comment {ws : List W} {r : List UInt8} : splitFrom ws (35 :: r) = some ws := by
  have ht : trimL (35 :: r) = 35 :: r := by unfold trimL; rw [List.dropWhile_cons, if_neg (by decide)]
  rw [splitFrom_eq, ht]
  simp only
  first | rw [if_pos rfl] | rw [if_pos trivial]

set_option maxHeartbeats 2000000 in
set_option maxRecDepth 100000 in
theorem rsplit_any (line : List UInt8) (hl : line.length ≤ 9223372036854775807) (w : World) :
    Calls Tryd.prog 9 #[.string ⟨line.toArray⟩] w fun e w' => RWords w' w.heap.size line e ∧ Below w.heap.size w w' := by
  by_cases hlong : 1000 < line.length
  · have hl1 : (1000 : Int) < (line.length : Int) := by omega
    go_enter Tryd.func9, Tryd.ntmps9
    go_wp2
    go_ret2
    exact ⟨by unfold RWords; rw [if_pos hlong]; rfl, Below.refl _ _⟩
  have hfin : ∀ w' e, (match splitB line with | none => e = .returned (.tuple #[.slice none 0 0, .int .i64 3]) | some ws => ∃ v, e = .returned (.tuple #[v, .int .i64 0]) ∧ w'.ownsRow w.heap.size 49 2 v ws.length (wcells ws)) → RWords w' w.heap.size line e := by
    intro w' e h; unfold RWords; rw [if_neg hlong]; exact h
  have HF := Lib.hid hfin
  have hl1 : (line.length : Int) ≤ 1000 := by omega
  clear hfin
  obtain ⟨i0, hi0, hz0, hz1, hz2⟩ := info_parts infoRWord
  have HI := Lib.hid hi0
  have HI1 := Lib.hid hz0; have HI2 := Lib.hid hz1; have HI3 := Lib.hid hz2
  clear hi0 hz0 hz1 hz2
  go_enter Tryd.func9, Tryd.ntmps9
  go_wp2_with fail
  go_loopg [4, 5, 6, 7, 8] line.length (fun g vl vi _ _ _ wr => ∃ (i : Nat) (ws : List W) (t : List UInt8), vi = .int .i64 i ∧ line.drop i = t ∧ i ≤ line.length ∧ splitFrom ws t = splitB line ∧ ws.length + t.length ≤ line.length ∧ g = t.length ∧
    wr.ownsRow w.heap.size 49 2 vl ws.length (wcells ws) ∧ Below w.heap.size w wr)
  case atStart =>
    refine ⟨0, [], line, rfl, rfl, by omega, rfl, by simp, rfl, ?_, (Below.refl _ _).alloc (Nat.le_refl _) _⟩
    exact ⟨rfl, .inr ⟨w.heap.size, 0, #[], rfl, Nat.le_refl _, heap_alloc_new _ _, Nat.le_refl _, by unfold maxLen; omega, rfl, rfl⟩⟩
  case round =>
    obtain ⟨i, ws, t, rfl, ht, hi, hq, hle, rfl, hown, hbel⟩ := hrel
    have HB := Lib.hid hbel
    have HO := Lib.hid hown
    have HQ := Lib.hid hq
    have HT := Lib.hid ht
    have hsz := hbel.size
    have hm1 : ws.length + 1 ≤ maxLen := by unfold maxLen; omega
    have hm2 : (ws.length + 1) * 24 ≤ 140737488355328 := by omega
    clear hbel hq ht hown
    obtain rfl | ⟨c, t, rfl⟩ : t = [] ∨ ∃ c t', t = c :: t' := by cases t <;> simp
    · have hi' : line.length ≤ i := by have := HT.out; rwa [List.drop_eq_nil_iff] at this
      go_wp2_with fail
      go_ret2
      refine ⟨HF.out _ _ ?_, HB.out⟩
      rw [← HQ.out]
      exact ⟨_, rfl, HO.out⟩
    obtain ⟨hlt, hd1, hget⟩ := drop_cons HT.out
    have hg := hget hlt
    have HD1 := Lib.hid hd1
    simp only [List.length_cons] at hle
    have hi1 : (i : Int) < (line.length : Int) := by omega
    clear hget hd1 hi
    by_cases h35 : c = 35
    · subst h35
      go_wp2_with fail
      go_ret2
      refine ⟨HF.out _ _ ?_, HB.out⟩
      rw [← HQ.out, split_comment]
      exact ⟨_, rfl, HO.out⟩
    have g35 : ((c.toNat : Int) != 35) = true := by
      have := byte_ne (k := 35) h35
      rw [bne_iff_ne]; exact beq_eq_false_iff_ne.1 this
    cases hb : blankB c with
    | true =>
      have Hb := rblank_any c
      rw [hb] at Hb
      have HC := Lib.hid Hb
      have hq : splitFrom ws t = splitB line := by rw [← HQ.out, splitFrom_blank _ _ _ hb]
      have HQ2 := Lib.hid hq
      clear Hb hb hq
      go_wp2_with (go_at_call 20; refine (HC.out _).mono ?_; rintro e w' ⟨rfl, rfl⟩)
      go_roundg t.length
      case measure => simp only [List.length_cons]; omega
      case rel => exact ⟨i + 1, ws, t, by go_num, HD1.out, hlt, HQ2.out, by omega, rfl, HO.out, HB.out⟩
    | false =>
    have Hb := rblank_any c
    rw [hb] at Hb
    have HC := Lib.hid Hb
    have HBL := Lib.hid hb
    clear Hb hb
    by_cases h34 : c = 34
    · subst h34
      have hq := HQ.out
      rw [split_quoted] at hq
      have HQ2 := Lib.hid hq
      have hlen : (line.drop i).length ≤ 1000 := by rw [List.length_drop]; omega
      have hpos : 0 < (line.drop i).length := by rw [List.length_drop]; omega
      have hdd : (line.drop i).drop 1 = t := by rw [List.drop_drop]; exact HD1.out
      have HR := Lib.hid (rquoted_any (line.drop i) t hdd hpos hlen)
      clear hq hdd h35
      go_wp2_with (go_at_call 20; refine (HC.out _).mono ?_; rintro e w' ⟨rfl, rfl⟩)
      refine (HR.out _).mono ?_
      rintro e w' ⟨hrq, hb2⟩
      have HRQ := Lib.hid hrq
      have HB2 := Lib.hid (HB.out.trans (hb2.mono hsz))
      have HO2 := Lib.hid (own_below HO.out hb2)
      have hsz2 : w.heap.size ≤ w'.heap.size := Nat.le_trans hsz hb2.size
      clear hrq hb2
      cases hc : qscan [] t with
      | none =>
        have h1 := HRQ.out
        have h2 := HQ2.out
        unfold RQ at h1
        rw [hc] at h1 h2
        simp only at h1 h2
        subst h1
        have H2 := Lib.hid h2
        clear h2 hc
        go_wp2_with fail
        go_ret2
        refine ⟨HF.out _ _ ?_, HB2.out⟩
        rw [← H2.out]; rfl
      | some p =>
        obtain ⟨x, t2⟩ := p
        have h1 := HRQ.out
        have h2 := HQ2.out
        unfold RQ at h1
        rw [hc] at h1 h2
        simp only at h1 h2
        obtain ⟨n, hn0, hn1, hn2, rfl⟩ := h1
        have hql := q_len (Nat.le_refl _) hc
        simp only [List.length_nil] at hql
        have hln : line.length = i + (t.length + 1) := by have := congrArg List.length HT.out; simp only [List.length_drop, List.length_cons] at this; omega
        have hnn : t2.length + n = t.length + 1 := by
          have h3 := congrArg List.length hn2
          rw [List.length_drop, List.length_drop] at h3
          rw [List.length_drop] at hn1
          omega
        have H2 := Lib.hid h2
        have HN2 := Lib.hid hn2
        have hnz : ((n : Int) == 0) = false := by rw [beq_eq_false_iff_ne]; omega
        have hin : (i : Int) + (n : Int) ≤ 1000 := by omega
        have HLN := Lib.hid hln
        have HNN := Lib.hid hnn
        clear h2 hc hn2 hln hnn
        go_wp2_with (at_builtin; refine wpList_append_lies _ rfl _ _ _ rfl w.heap.size 49 i0 _ 2 24 Tryd.underlying27 HI.out HI1.out HI2.out HI3.out rfl (by omega) u4 ws.length (wcells ws) rfl (by exact own_alloc HO2.out _) ⟨w'.heap.size, 0, none⟩ 1 1 [.string ⟨x.toArray⟩, .bool true] rfl rfl (World.news_of_block (cs := #[.string ⟨x.toArray⟩, .bool true]) (t := 49) (fr := (0, 0)) (heap_alloc_new _ _)) (by simp [Value.oneCell']) (by omega) hm1 hm2 (by simp; omega) (w'.heap.size + 1) (by simp) ?_; intro gg cap w1 hown1 hgrow hat hlt1)
        have HO3 := Lib.hid hown1
        have HB3 := Lib.hid ((HB2.out.alloc hsz2 _).grown hgrow (by simp; omega) (fun g hg => (own_lt HO2.out hg).1))
        clear hown1 hgrow hat
        go_roundg t2.length
        case measure => simp only [List.length_cons]; omega
        case rel =>
          refine ⟨i + n, ws ++ [⟨x, true⟩], t2, by go_num, ?_, ?_, H2.out, ?_, rfl, ?_, HB3.out⟩
          · rw [← List.drop_drop]; exact HN2.out
          · have := HLN.out; have := HNN.out; omega
          · have := HLN.out; have := HNN.out; simp only [List.length_append, List.length_cons, List.length_nil]; omega
          · rw [wcells_append, List.length_append]; exact HO3.out
    have g34 : ((c.toNat : Int) == 34) = false := byte_ne (k := 34) h34
    obtain ⟨wo, rfl⟩ : ∃ wo : World, wo = wr := ⟨_, rfl⟩
    go_upto_block 2 with (go_at_call 20; refine (HC.out _).mono ?_; rintro e w' ⟨rfl, rfl⟩)
    go_cut [5] (fun vj wx => ∃ (j : Nat) (p u : List UInt8), vj = .int .i64 j ∧ line.drop j = u ∧ c :: t = p ++ u ∧ p.all bareB = true ∧ j = i + p.length ∧ (u = [] ∨ ∃ d t', u = d :: t' ∧ blankB d = true) ∧ wo = wx)
    case first =>
      go_wp2_with fail
      go_loopg [5] (t.length + 1) (fun g vj wx => ∃ (j : Nat) (p u : List UInt8), vj = .int .i64 j ∧ line.drop j = u ∧ c :: t = p ++ u ∧ p.all bareB = true ∧ j = i + p.length ∧ g = u.length ∧ wo = wx)
      case atStart => exact ⟨i, [], c :: t, rfl, HT.out, rfl, rfl, rfl, rfl, rfl⟩
      case round =>
        obtain ⟨j, p, u, rfl, hj, hpu, hp, hjp, rfl, rfl⟩ := hrel
        have HJ := Lib.hid hj
        have HPU := Lib.hid hpu
        have HP := Lib.hid hp
        have HJP := Lib.hid hjp
        have hju : j + u.length = line.length ∧ j ≤ line.length := by
          have h1 := congrArg List.length HPU.out
          have h2 := congrArg List.length HT.out
          have h3 := congrArg List.length hj
          simp only [List.length_append, List.length_drop, List.length_cons] at h1 h2 h3
          omega
        obtain ⟨hju1, hju2⟩ := hju
        clear hj hpu hp hjp
        obtain rfl | ⟨d, u, rfl⟩ : u = [] ∨ ∃ d u', u = d :: u' := by cases u <;> simp
        · have hnj : ¬ (j : Int) < (line.length : Int) := by simp only [List.length_nil] at hju1; omega
          clear hju1
          go_wp2_with fail
          go_meet
          exact ⟨j, p, [], rfl, HJ.out, HPU.out, HP.out, HJP.out, .inl rfl, rfl⟩
        simp only [List.length_cons] at hju1
        have hnj : (j : Int) < (line.length : Int) := by omega
        obtain ⟨hltj, hdj, hgetj⟩ := drop_cons HJ.out
        have hgj := hgetj hltj
        have HDJ := Lib.hid hdj
        have hj1000 : (j : Int) ≤ 1000 := by omega
        have HJU := Lib.hid hju1
        clear hgetj hdj hju1
        cases hbd : blankB d with
        | true =>
          have Hb := rblank_any d
          rw [hbd] at Hb
          have HCd := Lib.hid Hb
          have HBd := Lib.hid hbd
          clear Hb hbd
          go_wp2_with (go_at_call 20; refine (HCd.out _).mono ?_; rintro e w' ⟨rfl, rfl⟩)
          go_meet
          exact ⟨j, p, d :: u, rfl, HJ.out, HPU.out, HP.out, HJP.out, .inr ⟨d, u, rfl, HBd.out⟩, rfl⟩
        | false =>
          have Hb := rblank_any d
          rw [hbd] at Hb
          have HCd := Lib.hid Hb
          have HBd := Lib.hid hbd
          clear Hb hbd
          cases hbr : bareB d with
          | true =>
            have Hr := rbare_any d
            rw [hbr] at Hr
            have HRd := Lib.hid Hr
            have HBr := Lib.hid hbr
            clear Hr hbr
            go_wp2_with (first | (go_at_call 20; refine (HCd.out _).mono ?_; rintro e w' ⟨rfl, rfl⟩) | (go_at_call 22; refine (HRd.out _).mono ?_; rintro e w' ⟨rfl, rfl⟩))
            go_roundg u.length
            case measure => simp only [List.length_cons]; omega
            case rel => exact ⟨j + 1, p ++ [d], u, by go_num, HDJ.out, by rw [HPU.out]; simp, by rw [List.all_append, HP.out]; simp [HBr.out], by have := HJP.out; simp only [List.length_append, List.length_cons, List.length_nil]; omega, rfl, rfl⟩
          | false =>
            have Hr := rbare_any d
            rw [hbr] at Hr
            have HRd := Lib.hid Hr
            have HBr := Lib.hid hbr
            clear Hr hbr
            go_wp2_with (first | (go_at_call 20; refine (HCd.out _).mono ?_; rintro e w' ⟨rfl, rfl⟩) | (go_at_call 22; refine (HRd.out _).mono ?_; rintro e w' ⟨rfl, rfl⟩))
            go_ret2
            refine ⟨HF.out _ _ ?_, HB.out⟩
            rw [← HQ.out, split_wrong HBL.out h35 h34 HPU.out HP.out HBd.out HBr.out]
            rfl
    case rest =>
      obtain ⟨j, p, u, rfl, hj, hpu, hp, hjp, hu, rfl⟩ := hcut
      have hq : splitFrom (ws ++ [⟨p, false⟩]) u = splitB line := by rw [← HQ.out, split_word HBL.out h35 h34 hpu hp hu]
      have hju : j + u.length = line.length ∧ 0 < p.length := by
        have h1 := congrArg List.length hpu
        have h2 := congrArg List.length HT.out
        have h3 := congrArg List.length hj
        simp only [List.length_append, List.length_drop, List.length_cons] at h1 h2 h3
        refine ⟨by omega, ?_⟩
        rcases Nat.eq_zero_or_pos p.length with h0 | h0
        · have : p = [] := List.eq_nil_of_length_eq_zero h0
          subst this
          rcases hu with rfl | ⟨d, t', rfl, hd⟩
          · cases hpu
          · simp only [List.nil_append, List.cons.injEq] at hpu
            have := HBL.out
            rw [hpu.1, hd] at this; cases this
        · exact h0
      have hcut2 : List.drop i (List.take j line) = p := by
        rw [List.drop_take, HT.out, hpu, hjp]
        simp
      have HJ := Lib.hid hj
      have HQ2 := Lib.hid hq
      have HCUT := Lib.hid hcut2
      have hij0 : (i : Int) ≤ (j : Int) := by omega
      have hij1 : (j : Int) ≤ (line.length : Int) := by omega
      have hpl : p.length + u.length = t.length + 1 := by have := congrArg List.length hpu; simpa using this.symm
      obtain ⟨hju1, hju2⟩ := hju
      have HJU := Lib.hid hju1
      have HPL := Lib.hid hpl
      clear hj hq hcut2 hjp hp hpu hu hju1 hpl
      go_wp2_with (at_builtin; refine wpList_append_lies _ rfl _ _ _ rfl w.heap.size 49 i0 _ 2 24 Tryd.underlying27 HI.out HI1.out HI2.out HI3.out rfl (by omega) u4 ws.length (wcells ws) rfl (by exact own_alloc HO.out _) ⟨wo.heap.size, 0, none⟩ 1 1 [.string ⟨(List.drop i (List.take j line)).toArray⟩, .bool false] rfl rfl (World.news_of_block (cs := #[.string ⟨(List.drop i (List.take j line)).toArray⟩, .bool false]) (t := 49) (fr := (0, 0)) (heap_alloc_new _ _)) (by simp [Value.oneCell']) (by omega) hm1 hm2 (by simp; omega) (wo.heap.size + 1) (by simp) ?_; intro gg cap w1 hown1 hgrow hat hlt1)
      have HO3 := Lib.hid hown1
      have HB3 := Lib.hid ((HB.out.alloc hsz _).grown hgrow (by simp; omega) (fun g hg => (own_lt HO.out hg).1))
      clear hown1 hgrow hat
      go_roundg u.length
      case measure => have := HPL.out; simp only [List.length_cons]; omega
      case rel =>
        refine ⟨j, ws ++ [⟨p, false⟩], u, rfl, HJ.out, by omega, HQ2.out, ?_, rfl, ?_, HB3.out⟩
        · have := HPL.out; simp only [List.length_append, List.length_cons, List.length_nil]; omega
        · have := HO3.out
          rw [HCUT.out] at this
          rw [wcells_append, List.length_append]; exact this
end Go.Proofs.YtnkhiaikdmpimaaDoor
