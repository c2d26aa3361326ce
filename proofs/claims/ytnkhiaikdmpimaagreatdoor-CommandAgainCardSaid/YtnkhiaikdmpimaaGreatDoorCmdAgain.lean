/- cauterylaw34.CommandAgain: for every line it returns true, and the line reads behind the call as it read before. No condition but the list of laid variables that the card ties. -/
import Derived.Test.YtnkhiaikdmpimaaGreatDoorBackWalk
import Derived.Test.YtnkhiaikdmpimaaGreatDoorRowAidZ
namespace Go.Proofs.YtnkhiaikdmpimaaGreatDoor
open Go.RowKit Lx

set_option maxHeartbeats 4000000 in
set_option maxRecDepth 100000 in
theorem commandAgain_walk (line : List UInt8) (w : World) (hv : HasErr w) (ht : Tab w) :
    Calls Tryz.prog 5 #[.string ⟨line.toArray⟩] w fun e w' => e = .returned (.bool true) ∧ Below w.heap.size w w' := by
  have HAL : Hid (∀ W, Below w.heap.size w W → Calls Tryz.prog 7 #[] W fun e w' => e = .returned (.bool true) ∧ Below W.heap.size W w') := Lib.hid (fun W h => alive34_any W (hv.below h) (ht.below h))
  by_cases h300 : 300 < line.length
  · have hi : (300 : Int) < (line.length : Int) := by omega
    have HB := Lib.hid (Below.refl w.heap.size w)
    clear hv ht
    go_enter Tryz.func5, Tryz.ntmps5
    go_wp2_with (go_at_call 7; with_reducible refine (HAL.out _ HB.out).mono ?_)
    first | rintro e w2 rfl hb2 | rintro e w2 ⟨rfl, hb2⟩
    go_wp2_with fail
    go_ret
    exact ⟨rfl, hb2⟩
  have hi : ¬ (300 : Int) < (line.length : Int) := by omega
  have HPR : Hid (Calls Tryz.prog 13 #[.string ⟨line.toArray⟩] w fun e w' => e = .returned (.tuple #[encCmd (parseP line).1, .int .i64 (parseP line).2]) ∧ Below w.heap.size w w') := Lib.hid (parse_any line (by omega) w hv ht)
  rcases parse_may line with ⟨he, q, hr, hn0, hn1⟩ | ⟨he, hz⟩
  · rw [he] at HPR
    generalize (parseP line).1 = c at *
    have hn : NowOk c := ⟨hn0, hn1⟩
    have htl := textB_len hn
    have HTX : Hid (∀ W, Below w.heap.size w W → Calls Tryz.prog 8 #[encCmd c] W fun e w' => e = .returned (.tuple #[.string ⟨(textB c).1.toArray⟩, .int .i64 0]) ∧ Below W.heap.size W w') := Lib.hid (fun W h => by
      have h1 := text_any c hn W (ht.below h)
      have h2 : (textB c).2 = 0 := by unfold textB; rw [hr]
      rwa [h2] at h1)
    have HMY : Hid (∀ W, Calls Tryz.prog 11 #[encCmd c] W fun e w' => e = .returned (.bool true) ∧ Below W.heap.size W w') := Lib.hid (fun W => by have h := may_any c W; rwa [hr] at h)
    have HP2 : Hid (∀ W, Below w.heap.size w W → Calls Tryz.prog 13 #[.string ⟨(textB c).1.toArray⟩] W fun e w' => e = .returned (.tuple #[encCmd (if 1000 < (textB c).1.length then (Cmd.zero, (4 : Int)) else (c, 0)).1, .int .i64 (if 1000 < (textB c).1.length then (Cmd.zero, (4 : Int)) else (c, 0)).2]) ∧ Below W.heap.size W w') := Lib.hid (fun W h => by
      have h1 := parse_any (textB c).1 (by omega) W (hv.below h) (ht.below h)
      rwa [parse_back hr hn0 hn1] at h1)
    clear hv ht he hr hn0 hn1 hn
    rw [encCmd_eq] at HPR HTX HMY
    generalize (textB c).1 = tx at *
    by_cases hl : 1000 < tx.length
    · rw [if_pos hl] at HP2
      have hli : (1000 : Int) < (tx.length : Int) := by omega
      clear hl htl h300
      go_enter Tryz.func5, Tryz.ntmps5
      go_wp2_with (go_at_call 13; with_reducible refine HPR.out.mono ?_)
      first | rintro e w1 rfl hb1 | rintro e w1 ⟨rfl, hb1⟩
      have HB1A := Lib.hid (fun o => hb1.alloc hb1.size o)
      clear hb1
      go_wp2_with (go_at_call 8; with_reducible refine (HTX.out _ (HB1A.out _)).mono ?_)
      first | rintro e w2 rfl hb2 | rintro e w2 ⟨rfl, hb2⟩
      have hx2 : BoxOf w2 w1.heap.size 26 c := by first | exact box_below hb2 | exact box_below (by rw [World.size_alloc]; exact hb2)
      have HX2 := Lib.hid hx2
      have HB2 := Lib.hid ((HB1A.out _).trans (hb2.mono (HB1A.out _).size))
      clear hb2 hx2
      go_wp2_with (go_at_call 13; with_reducible refine (HP2.out _ HB2.out).mono ?_)
      first | rintro e w3 rfl hb3 | rintro e w3 ⟨rfl, hb3⟩
      obtain ⟨hx3, hB3⟩ := keep34 HX2.out HB2.out hb3
      have HX3 := Lib.hid hx3
      have HB3A := Lib.hid (fun o => hB3.alloc hB3.size o)
      have hlt3 := hx3.lt
      clear hb3 hx3 hB3
      rw [encCmd_eq]
      go_wp2_with (go_at_call 7; with_reducible refine (HAL.out _ (HB3A.out _)).mono ?_)
      first | rintro e w4 rfl hb4 | rintro e w4 ⟨rfl, hb4⟩
      have hd4 : BoxOf w4 w3.heap.size 26 Cmd.zero := by first | exact box_below hb4 | exact box_below (by rw [World.size_alloc]; exact hb4)
      have hx4 : BoxOf w4 w1.heap.size 26 c := BoxOf.below (HX3.out.below ((Below.refl _ _).alloc (Nat.le_refl _) _)) (by first | exact hb4 | (rw [World.size_alloc]; exact hb4))
      have HB4 := Lib.hid ((HB3A.out _).trans (hb4.mono (HB3A.out _).size))
      have HX4 := Lib.hid hx4
      have HD4 := Lib.hid hd4
      obtain ⟨c0, c1, c2, c3, c4, c5, c6, c7, c8, c9, c10, c11, c12⟩ := hx4.cells
      clear hb4 hx4 hd4
      go_wp2_with (go_at_call 11; with_reducible refine (HMY.out _).mono ?_)
      first | rintro e w5 rfl hb5 | rintro e w5 ⟨rfl, hb5⟩
      have HB5 := Lib.hid (HB4.out.trans (hb5.mono HB4.out.size))
      clear c0 c1 c2 c3 c4 c5 c6 c7 c8 c9 c10 c11 c12 hb5
      go_wp2_with fail
      go_ret
      exact ⟨rfl, HB5.out⟩
    · rw [if_neg hl] at HP2
      have hli : ¬ (1000 : Int) < (tx.length : Int) := by omega
      clear hl htl h300
      go_enter Tryz.func5, Tryz.ntmps5
      go_wp2_with (go_at_call 13; with_reducible refine HPR.out.mono ?_)
      first | rintro e w1 rfl hb1 | rintro e w1 ⟨rfl, hb1⟩
      have HB1A := Lib.hid (fun o => hb1.alloc hb1.size o)
      clear hb1
      go_wp2_with (go_at_call 8; with_reducible refine (HTX.out _ (HB1A.out _)).mono ?_)
      first | rintro e w2 rfl hb2 | rintro e w2 ⟨rfl, hb2⟩
      have hx2 : BoxOf w2 w1.heap.size 26 c := by first | exact box_below hb2 | exact box_below (by rw [World.size_alloc]; exact hb2)
      have HX2 := Lib.hid hx2
      have HB2 := Lib.hid ((HB1A.out _).trans (hb2.mono (HB1A.out _).size))
      clear hb2 hx2
      go_wp2_with (go_at_call 13; with_reducible refine (HP2.out _ HB2.out).mono ?_)
      first | rintro e w3 rfl hb3 | rintro e w3 ⟨rfl, hb3⟩
      obtain ⟨hx3, hB3⟩ := keep34 HX2.out HB2.out hb3
      have HX3 := Lib.hid hx3
      have HB3A := Lib.hid (fun o => hB3.alloc hB3.size o)
      have hlt3 := hx3.lt
      clear hb3 hx3 hB3
      rw [encCmd_eq]
      go_wp2_with (go_at_call 7; with_reducible refine (HAL.out _ (HB3A.out _)).mono ?_)
      first | rintro e w4 rfl hb4 | rintro e w4 ⟨rfl, hb4⟩
      have hd4 : BoxOf w4 w3.heap.size 26 c := by first | exact box_below hb4 | exact box_below (by rw [World.size_alloc]; exact hb4)
      have hx4 : BoxOf w4 w1.heap.size 26 c := BoxOf.below (HX3.out.below ((Below.refl _ _).alloc (Nat.le_refl _) _)) (by first | exact hb4 | (rw [World.size_alloc]; exact hb4))
      have HB4 := Lib.hid ((HB3A.out _).trans (hb4.mono (HB3A.out _).size))
      have HX4 := Lib.hid hx4
      have HD4 := Lib.hid hd4
      obtain ⟨c0, c1, c2, c3, c4, c5, c6, c7, c8, c9, c10, c11, c12⟩ := hx4.cells
      clear hb4 hx4 hd4
      go_wp2_with (go_at_call 11; with_reducible refine (HMY.out _).mono ?_)
      first | rintro e w5 rfl hb5 | rintro e w5 ⟨rfl, hb5⟩
      have HB5 := Lib.hid (HB4.out.trans (hb5.mono HB4.out.size))
      clear c0 c1 c2 c3 c4 c5 c6 c7 c8 c9 c10 c11 c12
      obtain ⟨c0, c1, c2, c3, c4, c5, c6, c7, c8, c9, c10, c11, c12⟩ := (HX4.out.below hb5).cells
      obtain ⟨d0, d1, d2, d3, d4, d5, d6, d7, d8, d9, d10, d11, d12⟩ := (HD4.out.below hb5).cells
      clear hb5
      go_wp2_with fail
      go_ret
      exact ⟨rfl, HB5.out⟩
  · rw [hz] at HPR
    have hb : ((parseP line).2 == 0) = false := by simpa using he
    generalize (parseP line).2 = er at *
    clear hv ht he hz h300
    rw [encCmd_eq] at HPR
    go_enter Tryz.func5, Tryz.ntmps5
    go_wp2_with (go_at_call 13; with_reducible refine HPR.out.mono ?_)
    first | rintro e w1 rfl hb1 | rintro e w1 ⟨rfl, hb1⟩
    have HB1A := Lib.hid (fun o => hb1.alloc hb1.size o)
    clear hb1
    go_wp2_with (go_at_call 7; with_reducible refine (HAL.out _ (HB1A.out _)).mono ?_)
    first | rintro e w2 rfl hb2 | rintro e w2 ⟨rfl, hb2⟩
    have hx2 : BoxOf w2 w1.heap.size 26 Cmd.zero := by first | exact box_below hb2 | exact box_below (by rw [World.size_alloc]; exact hb2)
    have HB2 := Lib.hid ((HB1A.out _).trans (hb2.mono (HB1A.out _).size))
    obtain ⟨c0, c1, c2, c3, c4, c5, c6, c7, c8, c9, c10, c11, c12⟩ := hx2.cells
    clear hb2 hx2
    go_wp2_with fail
    go_ret
    exact ⟨rfl, HB2.out⟩
end Go.Proofs.YtnkhiaikdmpimaaGreatDoor

namespace Go.Proofs.YtnkhiaikdmpimaaGreatDoor.commandAgain
open Go.ChangeShapes Go.WideShapes Go.ChangeAt Go.RowKit


set_option maxRecDepth 100000 in
theorem contract (H : Type) (enc : TypeId × Value → H) (W : World) (base : Nat) (args : Array Value) (ds gs : List (DataW H)) (before : List MemPlace)
    (hval : ∀ (j : Nat) t v, Tryz.f5.params[j]? = some t → args[j]? = some v → Value.okWide Tryz.prog W .any base t v)
    (hW : DataW.Whole enc Tryz.prog Tryz.f5.params.toList Rows.commandAgainSpec.vars false W args.toList ds gs before) (hL : laidMetH Tryz.prog Rows.commandAgainRow.laid W) :
    Calls Tryz.prog 5 args W fun e W' => ∃ v, e = .returned v ∧ Rows.commandAgainSpec.post enc Tryz.prog Tryz.f5 false true false false W args v W' := by
  have hW' := hW
  obtain ⟨p, q, hA0, hV, rfl, hfz, hnd⟩ := hW
  have hA : DataW.TrodAll enc Tryz.prog W 0 (fun _ => true) true Tryz.f5.params.toList args.toList ds p := hA0
  rw [Tryz.params5] at hA hval
  obtain ⟨v0, vs0, d0, ds0, p0, q0, hargs, rfl, rfl, h0, r0⟩ := trodAll_cons hA
  obtain ⟨rfl, rfl, rfl⟩ := trodAll_nil r0
  obtain rfl : args = #[v0] := by cases args; simp_all
  obtain ⟨rfl, rfl⟩ := trodVars_none hV
  obtain ⟨s, rfl, rfl, rfl, hs⟩ := Go.ChangeMaps.open_string Tryz.underlying9 (hval 0 9 v0 rfl rfl) h0
  clear hA0
  simp only [List.append_nil] at hW'
  have walk := commandAgain_walk s.data.toList W (hasErr hL) (hasTab hL)
  rw [← str_eta] at walk
  refine walk.mono fun e W' ⟨he, hb⟩ => ?_
  subst he
  exact ⟨_, rfl, row_end (pa := []) (pv := []) hW' (fun _ _ _ => trodAll_cons_mk (shut_bool Tryz.underlying4 _) trodAll_mk0) (fun _ _ => trodAll_cons_mk (Go.ChangeMaps.shut_string Tryz.underlying9 hs) trodAll_mk0) (fun _ _ => rfl) rfl
    hb (ok_one (by kernel_rfl) rfl (okWide_bool_mk Tryz.underlying4 _))⟩

theorem reads (os : Os) {H : Type} (enc : TypeId × Value → H) : ∃ places, DataW.whole enc Tryz.prog ((laidWorld os).forCall (fun _ _ => 0) ⟨#[], #[.string ByteArray.empty], []⟩).memory Tryz.f5.params.toList Rows.commandAgainSpec.vars false #[Value.string ByteArray.empty].toList 8 = some ([.lit (.string [])], [], places) :=
  ⟨[], by kernel_rfl⟩

set_option maxRecDepth 100000 in
theorem lifted (os : Os) (started : os.Started) (H : Type) (enc : TypeId × Value → H) (F : Stop.Interp) :
    ReturnsInHanded {} Tryz.checked os 5 .any ((OpenSpec.ofChange Rows.commandAgainSpec).preRow enc Tryz.prog Tryz.f5 Rows.commandAgainRow.domain false Rows.commandAgainRow.laid) (((OpenSpec.ofChange Rows.commandAgainSpec).at F).post enc Tryz.prog Tryz.f5 false true false false) := by
  obtain ⟨places, hx⟩ := reads os enc
  refine returnsInHanded_of_row (C := Tryz.checked) (s := OpenSpec.ofChange Rows.commandAgainSpec) own started (by kernel_rfl) Tryz.func5
    (witness_row_atRef (enc := enc) (C := Tryz.checked) false (laidWorld os) #[.string ByteArray.empty] (World.laidAll_os _ _ _) (by kernel_rfl) (by kernel_rfl) (by kernel_rfl)
      (OpenSpec.preRow_of_cond 8 hx (by kernel_rfl) (fun k hk => by cases hk) (by kernel_rfl) (laid_met os _))) ?_
  intro W base args ds gs before hval hW _ _ _ hL _ _
  exact contract H enc W base args ds gs before hval hW hL

theorem said : Rows.CommandAgainSaid :=
  OpenClaim.holds_of_cond 5 Tryz.f5 rfl rfl rfl rfl rfl rfl rfl ⟨rfl, rfl, rfl, rfl, rfl⟩ rfl rfl rfl rfl rfl (by kernel_rfl) Tryz.func5 (by kernel_rfl)
    (of_decide_eq_true (by kernel_rfl)) (by unfold Func.isWrapper; first | (rw [if_pos (by decide +kernel)]; kernel_rfl) | (rw [if_neg (by decide +kernel)]; exact ⟨rfl, rfl⟩))
    (fun os started H enc _ F => by rw [OpenClaim.pre_eq_preRow]; exact lifted os started H enc F)

/-- No parameter wants a stand-in. -/
theorem plain (f : FuncId) (fn : Func) (hf : Tryz.pinned.checked.prog.funcNamed "cautery/cauterylaw34.CommandAgain" = some f) (hfn : Tryz.pinned.checked.prog.funcs[f]? = some fn) :
    true = Tryz.pinned.checked.prog.looks [] ∧ ∀ (j : Nat) t, fn.params[j]? = some t → Tryz.pinned.checked.prog.wantsStandIn t = false := by
  obtain rfl : f = 5 := Option.some.inj ((show Tryz.prog.funcNamed "cautery/cauterylaw34.CommandAgain" = some 5 by kernel_rfl).symm.trans hf) |>.symm
  obtain rfl : fn = Tryz.f5 := (Option.some.inj (Tryz.func5.symm.trans hfn)).symm
  refine ⟨by kernel_rfl, fun j t ht => ?_⟩
  rw [Tryz.params5] at ht
  obtain rfl : t = 9 := by simpa using Array.mem_of_getElem? ht
  exact (show Tryz.prog.wantsStandIn 9 = false by kernel_rfl)

/-- THE CARD. -/
theorem card : Rows.CommandAgainCardSaid :=
  Claim7.holds_tied_plain_at .later [] _ _ _ _ said (fun _ h => by cases h) (by kernel_rfl) (fun _ h => by cases h) commandAgain_row_tie rfl ⟨rfl, rfl⟩ (by kernel_rfl) rfl plain (by kernel_rfl)
end Go.Proofs.YtnkhiaikdmpimaaGreatDoor.commandAgain
