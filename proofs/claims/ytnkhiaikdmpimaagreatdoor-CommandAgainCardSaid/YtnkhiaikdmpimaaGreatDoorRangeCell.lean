/- A RANGE OVER A FUNCTION WHOSE ITERATOR KEEPS A VARIABLE OF ITS OWN IN A CELL (strings.SplitSeq): one law. The iterator may turn the one block sb; whatever the caller says must stand apart from it. -/
import Derived.RangeFuncNested
import Derived.RangeFuncLeaves
namespace Go.Proofs.YtnkhiaikdmpimaaGreatDoor
open Go.RowKit
variable {P : Program} {n : Nat}

/-- the block of the deferred calls, and the loop's record behind it -/
structure Holds (D : Nat) (r : Loop) (W : World) : Prop where
  mark : W.heap[D]? = some (.deferred (some []))
  record : W.heap[D + 1]? = some (.loop r)
theorem Holds.size {D : Nat} {r : Loop} {W : World} (h : Holds D r W) : D + 1 < W.heap.size := (Array.getElem?_eq_some_iff.1 h.record).1
theorem Holds.grown {D sb : Nat} {r : Loop} {A B : World} (h : Holds D r A) (hg : A.grownBy B (some sb)) (hsb : sb < D) : Holds D r B := by
  have hs := h.size
  exact ⟨(hg.block D (by omega) (fun e => by injection e with e; omega)).trans h.mark, (hg.block (D + 1) hs (fun e => by injection e with e; omega)).trans h.record⟩
theorem Holds.turn {D : Nat} {r : Loop} {W : World} (h : Holds D r W) (r' : Loop) : Holds D r' (W.putObj (D + 1) (.loop r')) :=
  ⟨(World.putObj_heap_other (by omega)).trans h.mark, World.putObj_heap_same h.size⟩
theorem Holds.from {D : Nat} {r : Loop} {W W' : World} (h : Holds D r W) (hk : KeepsFrom D W W') : Holds D r W' :=
  ⟨hk.same D _ (Nat.le_refl _) h.mark rfl, hk.same (D + 1) _ (by omega) h.record rfl⟩

/-- what does not speak of block sb -/
def Stays {β : Type} (sb : Nat) (J : β → World → Prop) : Prop := ∀ s A B, J s A → A.grownBy B (some sb) → J s B
/-- THE ITERATOR's CONTRACT: it hands out words, each a step further on the way that Sp tells; S tells where the way ends. -/
def SeqCell {α : Type} (n : Nat) (P : Program) (g : Nat) (lb : Array Value) (encs : α → Array Value) (Kp : World → World → Prop) (S Sp : List α → Prop) (sb : Nat) (Pre : World → Prop) : Prop :=
  ∀ (l : Nat) (J Jx : List α → World → Prop) (W : World), Pre W → Stays sb J → Stays sb Jx →
    (∀ pre x W1, J pre W1 → Sp (pre ++ [x]) → YieldAt Fence.wide (n - 1) P l (encs x) W1 fun e W' =>
      (e = .returned (.bool true) ∧ J (pre ++ [x]) W' ∧ Kp W1 W') ∨ (e = .returned (.bool false) ∧ Jx (pre ++ [x]) W')) →
    J [] W →
    CallsIn Fence.wide n P g (#[.func (.yield l) #[] #[]] ++ lb) W fun e W' => (∃ v, e = .returned v) ∧ ((∃ xs, S xs ∧ J xs W') ∨ (∃ pre, Sp pre ∧ Jx pre W'))

/-- THE LAW. -/
theorem range_cell {α : Type} {g : Operand} {ps : Array Tmp} {assign body : Code} {Q : Exit → Act → World → Prop} {a : Act} {w : World}
    {gf : Nat} {lb : Array Value} (hg : a.eval g = .func (.func gf) #[] lb) (eg : ∀ args w, (callFunc gf args).run P w = .ok (.enter gf args) w)
    {encs : α → Array Value} (hps : ∀ x, (encs x).size = ps.size) {Kp : World → World → Prop} {S Sp : List α → Prop} {sb : Nat} {Pre : World → Prop}
    (hseq : SeqCell (n - 1) P gf lb encs Kp S Sp sb Pre) (h1 : 1 ≤ n) (hsb : sb < w.heap.size)
    (hKt : ∀ A B C, Kp A B → Kp B C → Kp A C) (hKb : ∀ (W : World) (o : Obj), Kp W (W.putObj (w.heap.size + 1) o)) (hPre : ∀ W, w.grownBy W none → Pre W)
    (I : List α → World → Prop) (Ix : Code → List α → World → Prop)
    (hI : ∀ s A B row, I s A → A.grownBy B row → (∀ k, row = some k → k = sb ∨ k = w.heap.size + 1) → I s B)
    (hIx : ∀ c s A B row, Ix c s A → A.grownBy B row → (∀ k, row = some k → k = sb ∨ k = w.heap.size + 1) → Ix c s B)
    (h0 : I [] w) (a₁ : α → Act)
    (hassign : ∀ (l : Nat) (x : α) (W : World) (K : Act → World → Prop), K (a₁ x) W →
      assign.wpIn (Fence.wide.inRound l) (n - 1 - 1) P (Exit.then K (fun _ _ _ => False)) { tmps := (ps.zip (encs x)).foldl (fun t (p, v) => t.setIfInBounds p v) a.tmps, defers := [] } W)
    (hbody : ∀ (l : Nat) (pre : List α) (x : α) (W : World), I pre W → Sp (pre ++ [x]) → w.heap.size + 1 < W.heap.size → body.wpIn (Fence.wide.inRound l) (n - 1 - 1) P (ownPostG w.heap.size Kp I Ix (pre ++ [x]) W) (a₁ x) W)
    (hdone : ∀ (xs : List α) (W : World), S xs → I xs W → W.heap[w.heap.size]? = some (.deferred (some [])) → Q .normal { a with defers := { target := .collected w.heap.size, args := #[] } :: a.defers } W)
    (hstop : ∀ (c : Code) (pre : List α) (W : World), Sp pre → Ix c pre W → W.heap[w.heap.size]? = some (.deferred (some [])) → c.wpIn Fence.wide n P Q { a with defers := { target := .collected w.heap.size, args := #[] } :: a.defers } W) :
    (Code.rangeFunc g ps assign body).wpIn Fence.wide n P Q a w := by
  refine wpIn_rangeFunc ?_
  intro fn hfn
  rw [show Fence.wide.round = none from rfl]
  obtain ⟨rec, hrec⟩ : ∃ rec : LoopState → Option Code → Loop, rec = fun st pe => { state := st, pending := pe, fn, tmps := a.tmps, params := ps, assign, body, defers := w.heap.size } := ⟨_, rfl⟩
  obtain ⟨W1, hW1⟩ : ∃ W1, (w.alloc (.deferred (some []))).alloc (.loop (rec .ready none)) = W1 := ⟨_, rfl⟩
  have hH1 : Holds w.heap.size (rec .ready none) W1 := by
    rw [← hW1]
    constructor
    · exact (Below.heap_alloc _ _ _ (by simp)).trans (World.alloc_heap_new w _)
    · have h := World.alloc_heap_new (w.alloc (.deferred (some []))) (.loop (rec .ready none))
      rwa [World.size_alloc] at h
  have hg0 : w.grownBy (w.alloc (.deferred (some []))) none := World.grownBy_alloc _ _ _
  have hg2 : (w.alloc (.deferred (some []))).grownBy W1 none := by rw [← hW1]; exact World.grownBy_alloc _ _ _
  have hg1 : w.grownBy W1 none := ⟨hg2.os.trans hg0.os, hg2.tape.trans hg0.tape, hg2.output.trans hg0.output, Nat.le_trans hg0.size hg2.size, fun k hk hr => (hg2.block k (Nat.lt_of_lt_of_le hk hg0.size) hr).trans (hg0.block k hk hr)⟩
  have hput : ∀ (W : World) (o : Obj), W.grownBy (W.putObj (w.heap.size + 1) o) (some (w.heap.size + 1)) := fun W o => grownBy_putObj' W _ o
  have hIp : ∀ s W o, I s W → I s (W.putObj (w.heap.size + 1) o) := fun s W o hs => hI s W _ _ hs (hput W o) (fun k e => by cases e; exact .inr rfl)
  have hIxp : ∀ c s W o, Ix c s W → Ix c s (W.putObj (w.heap.size + 1) o) := fun c s W o hs => hIx c s W _ _ hs (hput W o) (fun k e => by cases e; exact .inr rfl)
  refine ⟨w.heap.size + 1, [{ target := .collected w.heap.size, args := #[] }], W1, { target := .fn (.func gf) lb, args := #[.func (.yield (w.heap.size + 1)) #[] #[]] }, W1, gf,
    #[.func (.yield (w.heap.size + 1)) #[] #[]] ++ lb, W1, ?_, ?_, fun _ _ => trivial, ?_, fun _ => h1, ?_⟩
  · rw [← hW1, hrec]; exact run_enterLoop_outer _ _ _ _ _
  · simp only [resolve, hg]
    simp [go_sem]
  · simp [invoke, go_sem, eg]
  · refine (hseq (w.heap.size + 1) (fun pre W => I pre W ∧ Holds w.heap.size (rec .ready none) W) (fun pre W => ∃ c, Ix c pre W ∧ Holds w.heap.size (rec .done (some c)) W) W1 (hPre W1 hg1)
      (fun s A B hs hg' => ⟨hI s A B _ hs.1 hg' (fun k e => by cases e; exact .inl rfl), hs.2.grown hg' hsb⟩)
      (fun s A B hs hg' => by
        obtain ⟨c, hc, hh⟩ := hs
        exact ⟨c, hIx c s A B _ hc hg' (fun k e => by cases e; exact .inl rfl), hh.grown hg' hsb⟩) ?_ ⟨hI [] w W1 none h0 hg1 (fun k e => by cases e), hH1⟩).mono ?_
    · rintro pre x W ⟨hi, hh⟩ hsp
      have hy := run_yield (P := P) (args := encs x) hh.record (by rw [hrec]; exact hps x)
      rw [hrec] at hy
      refine ⟨fn, _, assign, body, hy, roundIn_of_wpIn hfn (hassign _ x W _ ⟨_, run_beginRound hh.record (by rw [hrec]), ?_⟩)⟩
      have hh2 := hh.turn { rec .ready none with state := .busy }
      refine wpIn_mono (hbody _ pre x _ (hIp _ _ _ hi) hsp hh2.size) ?_
      have fin : ∀ (jump : Option Code) (W3 : World), KeepsFrom w.heap.size (W.putObj (w.heap.size + 1) (.loop { rec .ready none with state := .busy })) W3 →
          (Instr.endRound (w.heap.size + 1) jump).run P W3 = .ok (.bool jump.isNone) (W3.putObj (w.heap.size + 1) (.loop (rec (if jump.isNone then .ready else .done) jump))) ∧
          Holds w.heap.size (rec (if jump.isNone then .ready else .done) jump) (W3.putObj (w.heap.size + 1) (.loop (rec (if jump.isNone then .ready else .done) jump))) := fun jump W3 hk3 => by
        have hh3 := hh2.from hk3
        have := run_endRound (P := P) jump hh3.record
        rw [hrec] at this ⊢
        exact ⟨this, hh3.turn _⟩
      rintro e a3 W3 hp
      cases e with
      | normal =>
        obtain ⟨hk3, hkp3, hi3⟩ := hp
        obtain ⟨hr, hh4⟩ := fin none W3 hk3
        exact ⟨_, _, hr, .inl ⟨rfl, ⟨hIp _ _ _ hi3, hh4⟩, hKt _ _ _ (hKt _ _ _ (hKb W _) hkp3) (hKb W3 _)⟩⟩
      | ret =>
        obtain ⟨hk3, hi3⟩ := hp
        obtain ⟨hr, hh4⟩ := fin (some .ret) W3 hk3
        exact ⟨_, _, hr, .inr ⟨rfl, .ret, hIxp _ _ _ _ hi3, hh4⟩⟩
      | exit id =>
        obtain ⟨hk3, hi3⟩ := hp
        obtain ⟨hr, hh4⟩ := fin (some (.exit id)) W3 hk3
        exact ⟨_, _, hr, .inr ⟨rfl, .exit id, hIxp _ _ _ _ hi3, hh4⟩⟩
      | goto t =>
        obtain ⟨hk3, hi3⟩ := hp
        obtain ⟨hr, hh4⟩ := fin (some (.goto t)) W3 hk3
        exact ⟨_, _, hr, .inr ⟨rfl, .goto t, hIxp _ _ _ _ hi3, hh4⟩⟩
      | panic ch => exact hp.elim
      | outgrown => exact hp.elim
    · rintro e W2 ⟨⟨v, rfl⟩, (⟨xs, hS, hi, hh⟩ | ⟨pre, hSp, c, hi, hh⟩)⟩
      · have hend := run_endLoop (P := P) hh.record (by rw [hrec]; simp)
        rw [hrec] at hend
        exact ⟨none, _, hend, hdone xs _ hS (hIp _ _ _ hi) ((World.putObj_heap_other (by omega)).trans hh.mark)⟩
      · have hend := run_endLoop (P := P) hh.record (by rw [hrec]; simp)
        rw [hrec] at hend
        exact ⟨some c, _, hend, hstop c pre _ hSp (hIxp _ _ _ _ hi) ((World.putObj_heap_other (by omega)).trans hh.mark)⟩
end Go.Proofs.YtnkhiaikdmpimaaGreatDoor
