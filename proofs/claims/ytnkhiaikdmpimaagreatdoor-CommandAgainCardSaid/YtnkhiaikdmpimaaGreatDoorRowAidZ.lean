/- WHAT THE ROWS OF law 34 NEED: the last step over 'Below'; the sentinel's cell; the table; the witness; a command opened. -/
import Derived.Test.YtnkhiaikdmpimaaGreatDoorCmdR
import Derived.Test.YtnkhiaikdmpimaaGreatDoorCards
import Derived.Test.YtnkhiaikdmpimaaGreatDoorTie
import Derived.OpenShut
import Derived.ChangeMaps5
import Derived.ChangeSame
import Derived.Deep.DeepHandedRow
import Derived.Deep.DeepWitnessRowRef
import Derived.Stop.LaidErr
import Derived.Lib.LaidU8
import Derived.Lay
import Derived.MakeChecks
import Derived.SevenTiedAt
namespace Go.Proofs.YtnkhiaikdmpimaaGreatDoor
open Go.ChangeShapes Go.WideShapes Go.ChangeAt Go.RowKit Lx

/-- the row's last step of a call of which 'Below' is known -/
theorem row_end {H : Type} {enc : TypeId × Value → H} {P : Program} {f : Func} {s : ChangeSpec} {W W' : World} {args : Array Value} {v : Value} {ds : List (DataW H)} {before pa pv : List MemPlace} {gs : List (DataW H)}
    (hW : DataW.Whole enc P f.params.toList s.vars false W args.toList ds gs before)
    (hres : ∀ (b : Nat) (sp : Nat → Bool) (hd : Bool), DataW.TrodAll enc P W' b sp hd f.resultTypes.toList (v.resultList f.resultTypes.size) (s.fn H (ds ++ gs)).results [])
    (hargs : ∀ sp : Nat → Bool, (∀ p ∈ before, sp p.block = true) → DataW.TrodAll enc P W' 0 sp true f.params.toList args.toList (s.fn H (ds ++ gs)).args pa)
    (hvars : ∀ sp : Nat → Bool, (∀ p ∈ before, sp p.block = true) → DataW.TrodVars enc P W' sp s.vars (s.fn H (ds ++ gs)).vars pv)
    (hps : before = pa ++ pv) (hb : Below W.heap.size W W')
    (hok : ∀ (j : Nat) (t : TypeId) (r : Value), f.resultTypes[j]? = some t → (v.resultList f.resultTypes.size)[j]? = some r → Value.okWide P W' .any 0 t r) :
    s.post enc P f false true false false W args v W' := by
  have hlt : ∀ p ∈ before, p.block < W.heap.size := fun p hp => hW.lt p hp
  have hold : ∀ p ∈ before, (fun b => decide (b < W.heap.size)) p.block = true := fun p hp => by simpa using hlt p hp
  refine ⟨ds, gs, before, [], pa, pv, hW, hres _ _ _, hargs _ hold, hvars _ hold, World.keptBut_mono (fun p hp => ⟨hp, ?_⟩) (hb.frame (· ∈ before)), fun _ => ?_⟩
  · rw [hps, List.mem_append] at hp
    exact Or.inr hp
  · obtain ⟨_, _, _, _, _, hz, hn⟩ := hW
    refine ⟨hok, _, _, ([] ++ pa) ++ pv, ⟨[] ++ pa, pv, trodAll_append (hargs _ (fun _ _ => rfl)) (hres _ _ _), hvars _ (fun _ _ => rfl), rfl, ?_, ?_⟩, ?_⟩
    · intro b off hp
      have hin : MemPlace.cell b off ∈ before := by rw [hps]; simpa using hp
      rw [hb.frozen (hlt _ hin)]
      exact hz b off hin
    · intro ha; cases ha
    · intro p hp _
      rw [hps]
      simpa using hp

theorem own : ownKnob Tryz.prog.godebug = none := by kernel_rfl
theorem laid_plain : (Rows.commandTextRow.laid.all fun x => x.2.handleName?.isNone) = true := by kernel_rfl
theorem gErr : Tryz.prog.globalNamed "strconv.ErrRange" = some 7 := by kernel_rfl
theorem gErrType : (Tryz.prog.globals[7]?).map (·.type) = some 77 := by kernel_rfl
theorem starName : "*" ++ "errors.errorString" = "*errors.errorString" := by decide
theorem rowErr (u : TypeId) (h : Tryz.prog.typeName? 3 u = some "*errors.errorString") : u = 176 :=
  typeName_ptr_named (nm := "errors.errorString") (by rw [starName]; kernel_rfl) (by kernel_rfl) (by decide) u (by rw [starName]; exact h)
theorem cellsErr : Tryz.prog.cellsOf 178 = 1 := by kernel_rfl
theorem cellsStr : Tryz.prog.cellsOf 9 = 1 := by kernel_rfl
theorem gSyn : Tryz.prog.globalNamed "strconv.ErrSyntax" = some 6 := by kernel_rfl
theorem gSynType : (Tryz.prog.globals[6]?).map (·.type) = some 77 := by kernel_rfl
/-- WHAT THE ROW's LIST GIVES: the sentinels' cells. -/
theorem hasErr {W : World} (h : laidMetH Tryz.prog Rows.commandTextRow.laid W) : HasErr W := by
  rw [MakeChecks.laidMetH_plain _ _ _ laid_plain] at h
  have h' : laidMet Tryz.prog (("strconv.ErrRange", Rows.laid_strconv_ErrRange) :: [("strconv.ErrSyntax", Rows.laid_strconv_ErrSyntax), ("unicode/utf8.first", Rows.laid_unicode_utf8_first)]) W := h.tail.tail.tail.tail
  have h2 : laidMet Tryz.prog (("strconv.ErrSyntax", Rows.laid_strconv_ErrSyntax) :: [("unicode/utf8.first", Rows.laid_unicode_utf8_first)]) W := h'.tail
  obtain ⟨a, s, hv, _⟩ := laid_sentinel h' gErr gErrType Tryz.underlying77 rowErr Tryz.underlying176 Tryz.underlying178 rfl rfl Tryz.underlying9 cellsErr cellsStr
  obtain ⟨a2, s2, hv2, _⟩ := laid_sentinel h2 gSyn gSynType Tryz.underlying77 rowErr Tryz.underlying176 Tryz.underlying178 rfl rfl Tryz.underlying9 cellsErr cellsStr
  exact ⟨⟨_, by simpa using World.var?_cell gErr hv 0, .inr ⟨_, _, rfl⟩⟩, ⟨_, by simpa using World.var?_cell gSyn hv2 0, .inr ⟨_, _, rfl⟩⟩⟩

/-- the witness's world: all that the row lists is laid -/
noncomputable def laidWorld (os : Os) : World := World.laidAll Tryz.prog os Rows.commandTextRow.laid
theorem laid_fits (os : Os) : (World.holding Tryz.prog os ⟨#[], #[], []⟩).layFits Tryz.prog Rows.commandTextRow.laid [] = true := by kernel_rfl
theorem laid_ifaces (os : Os) : (World.holding Tryz.prog os ⟨#[], #[], []⟩).layIfaces Tryz.prog Rows.commandTextRow.laid (World.laidAll Tryz.prog os Rows.commandTextRow.laid) = true := by kernel_rfl
theorem laid_met (os : Os) (args : Array Value) : laidMetH Tryz.prog Rows.commandTextRow.laid ((laidWorld os).forCall (fun _ _ => 0) ⟨#[], args, []⟩).memory := by
  rw [MakeChecks.laidMetH_plain _ _ _ laid_plain]
  exact laidMet_laidAll args (laid_fits os) (laid_ifaces os)

theorem gTab : Tryz.prog.globalNamed "internal/strconv.uint64pow10" = some 0 := by kernel_rfl
set_option maxRecDepth 100000 in
theorem cell_str {w : World} {base : Nat} {v : Value} (h : Cell.okWide Tryz.prog w .any base 9 v) : ∃ l : List UInt8, v = .string ⟨l.toArray⟩ := by
  simp only [Cell.okWide, Tryz.underlying9] at h
  cases v <;> simp_all [Cell.ok]
  rename_i s
  exact ⟨s.data.toList, by cases s; simp⟩
set_option maxRecDepth 100000 in
theorem cell_bool {w : World} {base : Nat} {v : Value} (h : Cell.okWide Tryz.prog w .any base 4 v) : ∃ b, v = .bool b := by
  simp only [Cell.okWide, Tryz.underlying4] at h
  cases v <;> simp_all [Cell.ok]
set_option maxRecDepth 100000 in
theorem cell_int {w : World} {base : Nat} {v : Value} (h : Cell.okWide Tryz.prog w .any base 3 v) : ∃ n, v = .int .i64 n := by
  simp only [Cell.okWide, Tryz.underlying3] at h
  cases v <;> simp_all [Cell.ok]
set_option maxRecDepth 100000 in
theorem cell_u64 {w : World} {base : Nat} {v : Value} (h : Cell.okWide Tryz.prog w .any base 22 v) : ∃ n, v = .int .u64 n ∧ 0 ≤ n ∧ n < 18446744073709551616 := by
  simp only [Cell.okWide, Tryz.underlying22] at h
  cases v <;> simp_all [Cell.ok]
  obtain ⟨a, b⟩ := h.2
  rw [show IntKind.u64.min = 0 from rfl] at a
  rw [show IntKind.u64.max = 18446744073709551615 from rfl] at b
  omega
set_option maxRecDepth 100000 in
theorem cmdTypes : Tryz.prog.cellTypes Tryz.prog.depth 26 = some [4, 9, 9, 9, 9, 9, 3, 22, 3, 3, 3, 3, 3] := by kernel_rfl
set_option maxRecDepth 100000 in
theorem cmdCells : Tryz.prog.cellsOf 26 = 13 := by kernel_rfl
theorem array13 {cs : Array Value} (h : cs.size = 13) : ∃ c0 c1 c2 c3 c4 c5 c6 c7 c8 c9 c10 c11 c12, cs = #[c0, c1, c2, c3, c4, c5, c6, c7, c8, c9, c10, c11, c12] := by
  obtain ⟨l⟩ := cs
  match l, h with
  | [c0, c1, c2, c3, c4, c5, c6, c7, c8, c9, c10, c11, c12], _ => exact ⟨c0, c1, c2, c3, c4, c5, c6, c7, c8, c9, c10, c11, c12, rfl⟩
set_option maxRecDepth 100000 in
theorem open_cmd {w : World} {base : Nat} {v : Value} (h : Value.okWide Tryz.prog w .any base 26 v) : ∃ c : Cmd, v = encCmd c ∧ NowOk c := by
  simp only [Value.okWide, Tryz.underlying26] at h
  obtain ⟨cs, rfl, hsz, ts, hts, _, hall⟩ := h
  rw [cmdTypes] at hts
  obtain rfl := Option.some.inj hts
  obtain ⟨c0, c1, c2, c3, c4, c5, c6, c7, c8, c9, c10, c11, c12, rfl⟩ := array13 (hsz.trans cmdCells)
  have hat : ∀ i v u, (#[c0, c1, c2, c3, c4, c5, c6, c7, c8, c9, c10, c11, c12] : Array Value)[i]? = some v → ([4, 9, 9, 9, 9, 9, 3, 22, 3, 3, 3, 3, 3] : List TypeId)[i % 13]? = some u → Cell.okWide Tryz.prog w .any base u v := by
    intro i v u hv hu
    obtain ⟨u', hu', hc⟩ := hall i v hv
    obtain rfl : u' = u := Option.some.inj (hu'.symm.trans hu)
    exact hc
  obtain ⟨b, rfl⟩ := cell_bool (hat 0 _ _ rfl rfl)
  obtain ⟨l1, rfl⟩ := cell_str (hat 1 _ _ rfl rfl)
  obtain ⟨l2, rfl⟩ := cell_str (hat 2 _ _ rfl rfl)
  obtain ⟨l3, rfl⟩ := cell_str (hat 3 _ _ rfl rfl)
  obtain ⟨l4, rfl⟩ := cell_str (hat 4 _ _ rfl rfl)
  obtain ⟨l5, rfl⟩ := cell_str (hat 5 _ _ rfl rfl)
  obtain ⟨n6, rfl⟩ := cell_int (hat 6 _ _ rfl rfl)
  obtain ⟨n7, rfl, h70, h71⟩ := cell_u64 (hat 7 _ _ rfl rfl)
  obtain ⟨n8, rfl⟩ := cell_int (hat 8 _ _ rfl rfl)
  obtain ⟨n9, rfl⟩ := cell_int (hat 9 _ _ rfl rfl)
  obtain ⟨n10, rfl⟩ := cell_int (hat 10 _ _ rfl rfl)
  obtain ⟨n11, rfl⟩ := cell_int (hat 11 _ _ rfl rfl)
  obtain ⟨n12, rfl⟩ := cell_int (hat 12 _ _ rfl rfl)
  exact ⟨⟨b, l1, l2, l3, l4, l5, n6, n7, ⟨n8, n9, n10, n11, n12⟩⟩, rfl, h70, h71⟩
theorem laidOut34 : laidOutB Tryz.prog = true := by kernel_rfl
set_option maxRecDepth 100000 in
theorem hasTab {W : World} (h : laidMetH Tryz.prog Rows.commandTextRow.laid W) : Tab W := by
  rw [MakeChecks.laidMetH_plain _ _ _ laid_plain] at h
  have h' : laidMet Tryz.prog (("internal/strconv.uint64pow10", Rows.laid_internal_strconv_uint64pow10) :: [("unicode/utf8.acceptRanges", Rows.laid_unicode_utf8_acceptRanges), ("strconv.ErrRange", Rows.laid_strconv_ErrRange), ("strconv.ErrSyntax", Rows.laid_strconv_ErrSyntax), ("unicode/utf8.first", Rows.laid_unicode_utf8_first)]) W := h.tail.tail
  have e : (Rows.laid_internal_strconv_uint64pow10 : DataW Unit) = Lib.tabData .u64 Lib.pow10Tab := by kernel_rfl
  rw [e] at h'
  exact Lib.tabIs_of_head (t := 143) (e := 22) (n := 20) gTab (by kernel_rfl) (by kernel_rfl) (by kernel_rfl) (by kernel_rfl) (by kernel_rfl) h'
end Go.Proofs.YtnkhiaikdmpimaaGreatDoor
