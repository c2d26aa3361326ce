/- WHAT EVERY ROW OF THIS SEAT NEEDS: the last step over 'Below'; the sentinel's cell; the witness. -/
import Derived.Test.YtnkhiaikdmpimaaDoorLexJ
import Derived.Test.YtnkhiaikdmpimaaDoorCards
import Derived.Test.YtnkhiaikdmpimaaDoorTie
import Derived.OpenShut
import Derived.ChangeMaps5
import Derived.ChangeSame
import Derived.Deep.DeepHandedRow
import Derived.Deep.DeepWitnessRowRef
import Derived.Stop.LaidErr
import Derived.Lib.LaidU8
import Derived.Lay
import Derived.MakeChecks
import Derived.SevenTiedAt
namespace Go.Proofs.YtnkhiaikdmpimaaDoor
open Go.ChangeShapes Go.WideShapes Go.ChangeAt Go.RowKit

/-- the row's last step of a call of which 'Below' is known -/
theorem row_end {H : Type} {enc : TypeId × Value → H} {P : Program} {f : Func} {s : ChangeSpec} {W W' : World} {args : Array Value} {v : Value} {ds : List (DataW H)} {before pa pv : List MemPlace} {gs : List (DataW H)}
    (hW : DataW.Whole enc P f.params.toList s.vars false W args.toList ds gs before)
    (hres : ∀ (b : Nat) (sp : Nat → Bool) (hd : Bool), DataW.TrodAll enc P W' b sp hd f.resultTypes.toList (v.resultList f.resultTypes.size) (s.fn H (ds ++ gs)).results [])
    (hargs : ∀ sp : Nat → Bool, (∀ p ∈ before, sp p.block = true) → DataW.TrodAll enc P W' 0 sp true f.params.toList args.toList (s.fn H (ds ++ gs)).args pa)
    (hvars : ∀ sp : Nat → Bool, (∀ p ∈ before, sp p.block = true) → DataW.TrodVars enc P W' sp s.vars (s.fn H (ds ++ gs)).vars pv)
    (hps : before = pa ++ pv) (hb : Below W.heap.size W W')
    (hok : ∀ (j : Nat) (t : TypeId) (r : Value), f.resultTypes[j]? = some t → (v.resultList f.resultTypes.size)[j]? = some r → Value.okWide P W' .any 0 t r) :
    s.post enc P f false true false false W args v W' := by
  have hlt : ∀ p ∈ before, p.block < W.heap.size := fun p hp => hW.lt p hp
  have hold : ∀ p ∈ before, (fun b => decide (b < W.heap.size)) p.block = true := fun p hp => by simpa using hlt p hp
  refine ⟨ds, gs, before, [], pa, pv, hW, hres _ _ _, hargs _ hold, hvars _ hold, World.keptBut_mono (fun p hp => ⟨hp, ?_⟩) (hb.frame (· ∈ before)), fun _ => ?_⟩
  · rw [hps, List.mem_append] at hp
    exact Or.inr hp
  · obtain ⟨_, _, _, _, _, hz, hn⟩ := hW
    refine ⟨hok, _, _, ([] ++ pa) ++ pv, ⟨[] ++ pa, pv, trodAll_append (hargs _ (fun _ _ => rfl)) (hres _ _ _), hvars _ (fun _ _ => rfl), rfl, ?_, ?_⟩, ?_⟩
    · intro b off hp
      have hin : MemPlace.cell b off ∈ before := by rw [hps]; simpa using hp
      rw [hb.frozen (hlt _ hin)]
      exact hz b off hin
    · intro ha; cases ha
    · intro p hp _
      rw [hps]
      simpa using hp

theorem own : ownKnob Tryd.prog.godebug = none := by kernel_rfl
theorem laid_plain : (Rows.lexSplitRow.laid.all fun x => x.2.handleName?.isNone) = true := by kernel_rfl
theorem gErr : Tryd.prog.globalNamed "strconv.ErrRange" = some 1 := by kernel_rfl
theorem gErrType : (Tryd.prog.globals[1]?).map (·.type) = some 54 := by kernel_rfl
theorem starName : "*" ++ "errors.errorString" = "*errors.errorString" := by decide
theorem rowErr (u : TypeId) (h : Tryd.prog.typeName? 3 u = some "*errors.errorString") : u = 109 :=
  typeName_ptr_named (nm := "errors.errorString") (by rw [starName]; kernel_rfl) (by kernel_rfl) (by decide) u (by rw [starName]; exact h)
theorem cellsErr : Tryd.prog.cellsOf 111 = 1 := by kernel_rfl
theorem cellsStr : Tryd.prog.cellsOf 9 = 1 := by kernel_rfl
/-- WHAT THE ROW's LIST GIVES: the sentinel's cell. -/
theorem hasErr {W : World} (h : laidMetH Tryd.prog Rows.lexSplitRow.laid W) : HasErr W := by
  rw [MakeChecks.laidMetH_plain _ _ _ laid_plain] at h
  have h' : laidMet Tryd.prog (("strconv.ErrRange", Rows.laid_strconv_ErrRange) :: [("strconv.ErrSyntax", Rows.laid_strconv_ErrSyntax), ("unicode/utf8.first", Rows.laid_unicode_utf8_first)]) W := h.tail.tail.tail.tail
  obtain ⟨a, s, hv, _⟩ := laid_sentinel h' gErr gErrType Tryd.underlying54 rowErr Tryd.underlying109 Tryd.underlying111 rfl rfl Tryd.underlying9 cellsErr cellsStr
  exact ⟨_, by simpa using World.var?_cell gErr hv 0, .inr ⟨_, _, rfl⟩⟩

/-- the witness's world: all that the row lists is laid -/
noncomputable def laidWorld (os : Os) : World := World.laidAll Tryd.prog os Rows.lexSplitRow.laid
theorem laid_fits (os : Os) : (World.holding Tryd.prog os ⟨#[], #[], []⟩).layFits Tryd.prog Rows.lexSplitRow.laid [] = true := by kernel_rfl
theorem laid_ifaces (os : Os) : (World.holding Tryd.prog os ⟨#[], #[], []⟩).layIfaces Tryd.prog Rows.lexSplitRow.laid (World.laidAll Tryd.prog os Rows.lexSplitRow.laid) = true := by kernel_rfl
theorem laid_met (os : Os) (args : Array Value) : laidMetH Tryd.prog Rows.lexSplitRow.laid ((laidWorld os).forCall (fun _ _ => 0) ⟨#[], args, []⟩).memory := by
  rw [MakeChecks.laidMetH_plain _ _ _ laid_plain]
  exact laidMet_laidAll args (laid_fits os) (laid_ifaces os)
end Go.Proofs.YtnkhiaikdmpimaaDoor
