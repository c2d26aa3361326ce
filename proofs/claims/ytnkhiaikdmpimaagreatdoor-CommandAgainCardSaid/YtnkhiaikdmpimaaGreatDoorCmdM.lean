/- Command.word, command.Text. -/
import Derived.Test.YtnkhiaikdmpimaaGreatDoorCmdL
namespace Go.Proofs.YtnkhiaikdmpimaaGreatDoor
open Go.RowKit Lx

set_option maxHeartbeats 1000000 in
set_option maxRecDepth 100000 in
theorem word_any (c : Cmd) (hb : Bounds c) (hn : NowOk c) (p : Nat) (hp : p ≤ 8) (w : World) (htab : Tab w) :
    Calls Tryz.prog 15 #[encCmd c, .int .u8 p] w fun e w' => e = .returned (.string ⟨(wordP c p).toArray⟩) ∧ Below w.heap.size w w' := by
  have HT : ∀ o, Tab (w.alloc o) := fun o => htab.below ((Below.refl _ _).alloc (Nat.le_refl _) o)
  have HTT := Lib.hid HT
  have HW := Lib.hid (fun o => (Below.refl w.heap.size w).alloc (Nat.le_refl _) o)
  have hnl : ∀ o, w.heap.size ≤ (w.alloc o).heap.size := fun o => by rw [World.size_alloc]; omega
  have HNL := Lib.hid hnl
  rw [encCmd_eq]
  clear htab HT hnl
  match p, hp with
  | 0, _ =>
    have hw : wordP c 0 = quoteB c.set := rfl
    rw [hw]
    clear hw
    have HQ := Lib.hid (fun w => quote_any c.set (by have := hb.set; omega) w)
    go_enter Tryz.func15, Tryz.ntmps15
    go_wp2_with (go_at_call 29; with_reducible refine (HQ.out _).mono ?_)
    first | rintro e w1 rfl hb1 | rintro e w1 ⟨rfl, hb1⟩
    go_wp2_with fail
    go_ret
    exact ⟨rfl, (HW.out _).trans (hb1.mono (HNL.out _))⟩
  | 1, _ =>
    have hw : wordP c 1 = quoteB c.snap := rfl
    rw [hw]
    clear hw
    have HQ := Lib.hid (fun w => quote_any c.snap (by have := hb.snap; omega) w)
    go_enter Tryz.func15, Tryz.ntmps15
    go_wp2_with (go_at_call 29; with_reducible refine (HQ.out _).mono ?_)
    first | rintro e w1 rfl hb1 | rintro e w1 ⟨rfl, hb1⟩
    go_wp2_with fail
    go_ret
    exact ⟨rfl, (HW.out _).trans (hb1.mono (HNL.out _))⟩
  | 2, _ =>
    have hw : wordP c 2 = quoteB c.other := rfl
    rw [hw]
    clear hw
    have HQ := Lib.hid (fun w => quote_any c.other (by have := hb.other; omega) w)
    go_enter Tryz.func15, Tryz.ntmps15
    go_wp2_with (go_at_call 29; with_reducible refine (HQ.out _).mono ?_)
    first | rintro e w1 rfl hb1 | rintro e w1 ⟨rfl, hb1⟩
    go_wp2_with fail
    go_ret
    exact ⟨rfl, (HW.out _).trans (hb1.mono (HNL.out _))⟩
  | 3, _ =>
    have hw : wordP c 3 = Lib.itoa c.cell := rfl
    rw [hw]
    clear hw
    have HQ := Lib.hid (fun w h => itoa_any c.cell (by have := hb.cell0; omega) (by have := hb.cell1; omega) w h)
    go_enter Tryz.func15, Tryz.ntmps15
    go_wp2_with (go_at_call 30; with_reducible refine (HQ.out _ (HTT.out _)).mono ?_)
    first | rintro e w1 rfl hb1 | rintro e w1 ⟨rfl, hb1⟩
    go_wp2_with fail
    go_ret
    exact ⟨rfl, (HW.out _).trans (hb1.mono (HNL.out _))⟩
  | 4, _ =>
    have hw : wordP c 4 = quoteB c.text := rfl
    rw [hw]
    clear hw
    have HQ := Lib.hid (fun w => quote_any c.text (by have := hb.text; omega) w)
    go_enter Tryz.func15, Tryz.ntmps15
    go_wp2_with (go_at_call 29; with_reducible refine (HQ.out _).mono ?_)
    first | rintro e w1 rfl hb1 | rintro e w1 ⟨rfl, hb1⟩
    go_wp2_with fail
    go_ret
    exact ⟨rfl, (HW.out _).trans (hb1.mono (HNL.out _))⟩
  | 5, _ =>
    have hw : wordP c 5 = Lib.itoa c.now := rfl
    rw [hw]
    clear hw
    have HQ := Lib.hid (fun w h => formatUint_any c.now hn.1 hn.2 w h)
    go_enter Tryz.func15, Tryz.ntmps15
    go_wp2_with (go_at_call 31; with_reducible refine (HQ.out _ (HTT.out _)).mono ?_)
    first | rintro e w1 rfl hb1 | rintro e w1 ⟨rfl, hb1⟩
    go_wp2_with fail
    go_ret
    exact ⟨rfl, (HW.out _).trans (hb1.mono (HNL.out _))⟩
  | 6, _ =>
    have hw : wordP c 6 = quoteB (polText c.keep) := rfl
    rw [hw]
    clear hw
    have HK : Hid (∀ w : World, Tab w → Calls Tryz.prog 32 #[.agg #[.int .i64 c.keep.last, .int .i64 c.keep.hours, .int .i64 c.keep.days, .int .i64 c.keep.weeks, .int .i64 c.keep.months]] w fun e w' => e = .returned (.string ⟨(polText c.keep).toArray⟩) ∧ Below w.heap.size w w') := Lib.hid (fun w h => polText_any c.keep hb.keep w h)
    have HQ := Lib.hid (fun w => quote_any (polText c.keep) (by have := polText_len hb.keep; omega) w)
    go_enter Tryz.func15, Tryz.ntmps15
    go_wp2_with (go_at_call 32; with_reducible refine (HK.out _ (HTT.out _)).mono ?_)
    first | rintro e w1 rfl hb1 | rintro e w1 ⟨rfl, hb1⟩
    go_wp2_with (go_at_call 29; with_reducible refine (HQ.out _).mono ?_)
    first | rintro e w2 rfl hb2 | rintro e w2 ⟨rfl, hb2⟩
    go_wp2_with fail
    go_ret
    exact ⟨rfl, (HW.out _).trans ((hb1.trans (hb2.mono hb1.size)).mono (HNL.out _))⟩
  | 7, _ =>
    have hw : wordP c 7 = [64] := rfl
    rw [hw]
    clear hw
    go_enter Tryz.func15, Tryz.ntmps15
    go_wp2_with fail
    go_ret
    exact ⟨rfl, HW.out _⟩
  | 8, _ =>
    have hw : wordP c 8 = v_from := rfl
    rw [hw]
    clear hw
    go_enter Tryz.func15, Tryz.ntmps15
    go_wp2_with fail
    go_ret
    exact ⟨rfl, HW.out _⟩
  | (q + 9), h => exact absurd h (by omega)

theorem fits_row {c : Cmd} {r : List Nat} (h : rowOfP c = some r) : partsN c = some r ∧ fitsP c r = true := by
  rw [rowOf_parts] at h
  cases hp : partsN c with
  | none => rw [hp] at h; cases h
  | some q =>
    rw [hp] at h
    simp only [Option.filter] at h
    cases hf : fitsP c q with
    | true => rw [hf] at h; simp at h; subst h; exact ⟨rfl, hf⟩
    | false => rw [hf] at h; simp at h

set_option maxHeartbeats 4000000 in
set_option maxRecDepth 100000 in
theorem text_any (c : Cmd) (hn : NowOk c) (w : World) (htab : Tab w) :
    Calls Tryz.prog 8 #[encCmd c] w fun e w' => e = .returned (.tuple #[.string ⟨(textB c).1.toArray⟩, .int .i64 (textB c).2]) ∧ Below w.heap.size w w' := by
  obtain ⟨i0, hi0, hz0, hz1, hz2⟩ := info_parts infoStr
  have HI := Lib.hid hi0; have HI1 := Lib.hid hz0; have HI2 := Lib.hid hz1; have HI3 := Lib.hid hz2
  clear hi0 hz0 hz1 hz2
  have HRO := Lib.hid (fun w => rowOf_any c w)
  rw [encCmd_eq] at HRO ⊢
  have hsec : ∃ b, c.second = b := ⟨_, rfl⟩
  obtain ⟨sec, hsec⟩ := hsec
  rw [hsec] at HRO ⊢
  have HSEC := Lib.hid hsec
  clear hsec
  have HTB := Lib.hid htab
  clear htab
  go_enter Tryz.func8, Tryz.ntmps8
  go_wp2_with (go_at_call 14; with_reducible refine (HRO.out _).mono ?_)
  rintro e w1 ⟨hro, hb1⟩
  have hbk : BoxOf w1 w.heap.size 26 c := by have h := box_below hb1; rw [← HSEC.out] at h; exact h
  have HB := Lib.hid (((Below.refl w.heap.size w).alloc (Nat.le_refl _) _).trans (hb1.mono (by rw [World.size_alloc]; omega)))
  have HT1 := Lib.hid (HTB.out.below HB.out)
  have hsw := HB.out.size
  clear hb1
  unfold RowOut at hro
  cases hr : rowOfP c with
  | none =>
    rw [hr] at hro
    subst hro
    have HT : Hid (textB c = ([], 1)) := Lib.hid (by unfold textB; rw [hr])
    clear hr
    go_wp2_with fail
    go_ret2
    rw [HT.out]
    exact ⟨rfl, HB.out⟩
  | some r =>
    rw [hr] at hro
    obtain ⟨v, rfl, hrow⟩ := hro
    obtain ⟨hp, hf⟩ := fits_row hr
    have hbd := fits_bounds c r hp hf
    have HT : Hid (textB c = (joinSp (headP c ++ r.map (wordP c)), 0)) := Lib.hid (by unfold textB; rw [hr])
    have HBD := Lib.hid hbd
    have HBK := Lib.hid hbk
    have HROW := Lib.hid hrow
    have HRL := Lib.hid (partsN_le c r hp)
    have hrl := parts_len c r hp
    have HWD := Lib.hid (fun p h w t => word_any c hbd hn p h w t)
    rw [encCmd_eq] at HWD
    have HWL := Lib.hid (fun p => wordP_len hbd hn p)
    have HHL := Lib.hid (headP_len hbd)
    have HHN : Hid ((headP c).length ≤ 2) := Lib.hid (by unfold headP; cases c.second <;> simp)
    obtain ⟨ar, cr, rfl, hrc⟩ := hrow
    obtain ⟨c0, c1, c2, c3, c4, c5, c6, c7, c8, c9, c10, c11, c12⟩ := hbk.cells
    rw [HSEC.out] at c0
    clear hr hp hf hbd hrc hbk
    go_upto_if 17 with fail
    have hH1 : ∃ h1 : List (List UInt8), h1 = (if c.second then [v_other] else []) := ⟨_, rfl⟩
    obtain ⟨h1, hH1⟩ := hH1
    have HH1 := Lib.hid hH1
    have HHE : Hid (headP c = h1 ++ [c.verb]) := Lib.hid (by rw [HH1.out]; unfold headP; cases c.second <;> rfl)
    have HH1L : Hid (h1.length ≤ 1) := Lib.hid (by rw [HH1.out]; cases c.second <;> simp)
    clear hH1
    go_cut [6] (fun vo wx => wx.ownsRow w1.heap.size 9 1 vo h1.length (scells h1) ∧ Below w1.heap.size w1 wx)
    case first =>
      cases sec with
      | true =>
        go_wp2_with (at_builtin; refine wpList_append_own _ rfl _ _ 45 rfl w1.heap.size 9 i0 (.string ByteArray.empty) 1 16 Tryz.underlying45 HI.out HI1.out HI2.out HI3.out rfl (by decide) _ _ _ rfl (own_alloc (w := w1) (v := .slice none 0 0) (n := 0) (xs := []) ⟨rfl, .inl ⟨rfl, rfl⟩⟩ _) ⟨w1.heap.size, 0, none⟩ 1 1 [.string ⟨v_other.toArray⟩] rfl rfl ?c1 ?c2 ?c3 ?c4 ?c5 ?_)
        case c1 =>
          intro j u hj
          match j, hj with
          | 0, hj => simp at hj; subst hj; simp [Addr.add]
        case c2 => intro u hu; simp at hu; subst hu; rfl
        case c3 => unfold maxLen; omega
        case c4 => omega
        case c5 => first | (simp; done) | (simp; omega)
        intro v' w2 hown' hgrow _
        have e : h1 = [v_other] := by rw [HH1.out, HSEC.out]; rfl
        go_wp2_with fail
        go_meet
        rw [e]
        exact ⟨hown', ((Below.refl _ _).alloc (Nat.le_refl _) _).grown hgrow (by simp) (fun g hg => by cases hg)⟩
      | false =>
        have e : h1 = [] := by rw [HH1.out, HSEC.out]; rfl
        go_wp2_with fail
        go_meet
        rw [e]
        exact ⟨⟨rfl, .inl ⟨rfl, rfl⟩⟩, Below.refl _ _⟩
    case rest =>
      obtain ⟨hown, hbc⟩ := hcut
      have HO := Lib.hid hown
      have HBc := Lib.hid hbc
      have hszc := hbc.size
      have hbx := HBK.out.below hbc
      have HBX := Lib.hid hbx
      have hhl := HH1L.out
      obtain ⟨d0, d1, d2, d3, d4, d5, d6, d7, d8, d9, d10, d11, d12⟩ := hbx.cells
      clear c0 c1 c2 c3 c4 c5 c6 c7 c8 c9 c10 c11 c12 hown hbc hbx d0 d2 d3 d4 d5 d6 d7 d8 d9 d10 d11 d12
      go_wp2_with (at_builtin; refine wpList_append_own _ rfl _ _ 45 rfl w1.heap.size 9 i0 (.string ByteArray.empty) 1 16 Tryz.underlying45 HI.out HI1.out HI2.out HI3.out rfl (by decide) _ _ _ rfl (own_alloc HO.out _) ⟨wc.heap.size, 0, none⟩ 1 1 [.string ⟨c.verb.toArray⟩] rfl rfl ?c1 ?c2 ?c3 ?c4 ?c5 ?_)
      case c1 =>
        intro j u hj
        match j, hj with
        | 0, hj => simp at hj; subst hj; simp [Addr.add]
      case c2 => intro u hu; simp at hu; subst hu; rfl
      case c3 => unfold maxLen; omega
      case c4 => omega
      case c5 => first | (simp; done) | (simp; omega)
      intro v' w2 hown' hgrow _
      have HB2 := Lib.hid ((HBc.out.alloc hszc _).grown hgrow (by simp; omega) (fun g hg => (own_lt HO.out hg).1))
      have HO2 : Hid (w2.ownsRow w1.heap.size 9 1 v' (headP c).length (scells (headP c))) := Lib.hid (by
        rw [HHE.out, scells_snoc, List.length_append]
        exact hown')
      clear hown' hgrow d1
      go_wp2_with fail
      go_loopg [6, 28] r.length (fun g vo vi wr => ∃ k : Nat, g = r.length - k ∧ k ≤ r.length ∧ vi = .int .i64 k ∧ wr.ownsRow w1.heap.size 9 1 vo (headP c ++ (r.take k).map (wordP c)).length (scells (headP c ++ (r.take k).map (wordP c))) ∧ Below w1.heap.size w1 wr)
      case atStart => exact ⟨0, rfl, Nat.zero_le _, rfl, by simpa using HO2.out, HB2.out⟩
      case round =>
        obtain ⟨k, hg, hk, rfl, hown, hbr⟩ := hrel
        have HO := Lib.hid hown
        have HBr := Lib.hid hbr
        have hsz := hbr.size
        have hlen : (headP c ++ (r.take k).map (wordP c)).length ≤ 6 := by
          have := HHN.out
          rw [List.length_append, List.length_map, List.length_take]; omega
        by_cases hlt : k < r.length
        · have hki : (k : Int) < (r.length : Int) := by omega
          have hbx := HBK.out.below hbr
          obtain ⟨d0, d1, d2, d3, d4, d5, d6, d7, d8, d9, d10, d11, d12⟩ := hbx.cells
          have hrow := HROW.out.below hbr
          obtain ⟨a2, cap2, hv2, hcells⟩ := hrow
          injection hv2 with hv2 _ hv3
          subst hv2
          subst hv3
          obtain ⟨ad, rfl, hcell⟩ := hcells k hlt
          have hp8 := HRL.out _ (List.getElem_mem hlt)
          have HWW := Lib.hid (HWD.out (r[k]'hlt) hp8 wr (HT1.out.below hbr))
          have HTK : Hid (headP c ++ (r.take (k + 1)).map (wordP c) = (headP c ++ (r.take k).map (wordP c)) ++ [wordP c (r[k]'hlt)]) := Lib.hid (by
            rw [List.take_succ_eq_append_getElem hlt, List.map_append, ← List.append_assoc]; rfl)
          generalize r[k]'hlt = p at *
          generalize wordP c p = wd at *
          generalize headP c ++ (r.take k).map (wordP c) = ws at *
          clear hown hbr hbx hcells
          go_wp2_with (go_at_call 15; with_reducible refine HWW.out.mono ?_)
          first | rintro e w3 rfl hb3 | rintro e w3 ⟨rfl, hb3⟩
          have HB3 := Lib.hid (HBr.out.trans (hb3.mono hsz))
          have hs3 := HB3.out.size
          have HO3 := Lib.hid (own_below HO.out hb3)
          clear hb3 d0 d1 d2 d3 d4 d5 d6 d7 d8 d9 d10 d11 d12 hcell
          go_wp2_with (at_builtin; refine wpList_append_own _ rfl _ _ 45 rfl w1.heap.size 9 i0 (.string ByteArray.empty) 1 16 Tryz.underlying45 HI.out HI1.out HI2.out HI3.out rfl (by decide) _ _ _ rfl (own_alloc HO3.out _) ⟨w3.heap.size, 0, none⟩ 1 1 [.string ⟨wd.toArray⟩] rfl rfl ?c1 ?c2 ?c3 ?c4 ?c5 ?_)
          case c1 =>
            intro j u hj
            match j, hj with
            | 0, hj => simp at hj; subst hj; simp [Addr.add]
          case c2 => intro u hu; simp at hu; subst hu; rfl
          case c3 => unfold maxLen; omega
          case c4 => omega
          case c5 => first | (simp; done) | (simp; omega)
          intro v'' w4 hown' hgrow _
          go_wp2_with fail
          go_roundg (r.length - (k + 1))
          case measure => omega
          case rel =>
            refine ⟨k + 1, rfl, hlt, by go_num, ?_, (HB3.out.alloc hs3 _).grown hgrow (by simp; omega) (fun g hg => (own_lt HO3.out hg).1)⟩
            rw [HTK.out, scells_snoc, List.length_append]
            exact hown'
        · have hki : ¬ (k : Int) < (r.length : Int) := by omega
          obtain rfl : k = r.length := by omega
          have hws : ∀ s ∈ headP c ++ (r.take r.length).map (wordP c), s.length ≤ 100000 := by
            intro s hs
            rcases List.mem_append.1 hs with hs | hs
            · have := HHL.out s hs; omega
            · obtain ⟨p, _, rfl⟩ := List.mem_map.1 hs; have := HWL.out p; omega
          have HJ := Lib.hid (join_sp _ hown (by omega) hws)
          have HTX : Hid (textB c = (joinSp (headP c ++ (r.take r.length).map (wordP c)), 0)) := Lib.hid (by rw [HT.out, List.take_length])
          generalize headP c ++ (r.take r.length).map (wordP c) = ws at *
          clear hown hbr
          go_wp2_with (go_at_call 16; with_reducible refine HJ.out.mono ?_)
          first | rintro e w2 rfl hb2 | rintro e w2 ⟨rfl, hb2⟩
          go_wp2_with fail
          go_ret2
          rw [HTX.out]
          exact ⟨rfl, HB.out.trans ((HBr.out.trans (hb2.mono hsz)).mono hsw)⟩
end Go.Proofs.YtnkhiaikdmpimaaGreatDoor
