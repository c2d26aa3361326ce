/- THE PLAIN LAW OF lex: words of a line, as functions on lists of bytes; there and back. -/
namespace Lx

structure W where
  s : List UInt8
  qd : Bool
  deriving DecidableEq, Repr

def blankB (c : UInt8) : Bool := c == 32 || c == 9
def bareB (c : UInt8) : Bool := decide (32 < c) && decide (c ≤ 126) && c != 34 && c != 92
def stopsB : List UInt8 → Bool
  | [] => true
  | c :: _ => blankB c || c == 35
def bareWord (s : List UInt8) : Bool := s.all bareB && !s.isEmpty && s.head? != some 35

def hexv (c : UInt8) : Option UInt8 :=
  if 48 ≤ c ∧ c ≤ 57 then some (c - 48) else if 97 ≤ c ∧ c ≤ 102 then some (c - 87) else none
def codeB : List UInt8 → Option UInt8
  | a :: b :: _ => match hexv a, hexv b with
    | some x, some y => some (16 * x + y)
    | _, _ => none
  | _ => none
/-- what stands behindOf a slash, and how many bytes that has -/
def escB : List UInt8 → Option (UInt8 × Nat)
  | [] => none
  | c :: r => if c = 110 then some (10, 1) else if c = 92 ∨ c = 34 then some (c, 1)
    else if c = 120 then (match codeB r with | some x => some (x, 3) | none => none) else none

theorem esc_pos {s : List UInt8} {x n} (h : escB s = some (x, n)) : 0 < n ∧ n ≤ s.length := by
  cases s with
  | nil => simp [escB] at h
  | cons c r =>
    simp only [escB] at h
    split at h
    · simp at h; simp [← h.2]
    · split at h
      · simp at h; simp [← h.2]
      · split at h
        · split at h
          · rename_i e
            simp at h
            match r, e with
            | [], e => simp [codeB] at e
            | [_], e => simp [codeB] at e
            | _ :: _ :: _, _ => simp [← h.2]
          · cases h
        · cases h

/-- a text behindOf its first quoteB: with fuel -/
def qf : Nat → List UInt8 → List UInt8 → Option (List UInt8 × List UInt8)
  | 0, _, _ => none
  | _ + 1, _, [] => none
  | k + 1, out, c :: r =>
    if c = 34 then (if stopsB r then some (out, r) else none)
    else if c = 92 then (match escB r with
      | some (x, n) => qf k (out ++ [x]) (r.drop n)
      | none => none)
    else qf k (out ++ [c]) r

theorem qf_fuel {k : Nat} : ∀ {m : Nat} {out s}, s.length < k → s.length < m → qf k out s = qf m out s := by
  induction k with
  | zero => intro m out s h; omega
  | succ k ih =>
    intro m out s hk hm
    obtain ⟨m, rfl⟩ : ∃ j, m = j + 1 := ⟨m - 1, by omega⟩
    cases s with
    | nil => rfl
    | cons c r =>
      simp only [qf]
      simp only [List.length_cons] at hk hm
      split
      · rfl
      · split
        · cases he : escB r with
          | none => rfl
          | some p =>
            obtain ⟨x, n⟩ := p
            simp only
            exact ih (by rw [List.length_drop]; omega) (by rw [List.length_drop]; omega)
        · exact ih (by omega) (by omega)

def qscan (out s : List UInt8) : Option (List UInt8 × List UInt8) := qf (s.length + 1) out s

theorem q_nil (out) : qscan out [] = none := rfl
theorem q_cons (out c r) : qscan out (c :: r) =
    if c = 34 then (if stopsB r then some (out, r) else none)
    else if c = 92 then (match escB r with
      | some (x, n) => qscan (out ++ [x]) (r.drop n)
      | none => none)
    else qscan (out ++ [c]) r := by
  rw [qscan]
  simp only [List.length_cons, qf]
  split
  · rfl
  · split
    · cases he : escB r with
      | none => rfl
      | some p =>
        obtain ⟨x, n⟩ := p
        simp only
        exact qf_fuel (by rw [List.length_drop]; omega) (by omega)
    · rfl

theorem q_len {k : Nat} : ∀ {out s w r}, s.length ≤ k → qscan out s = some (w, r) → out.length ≤ w.length ∧ w.length + r.length + 1 ≤ s.length + out.length := by
  induction k with
  | zero =>
    intro out s w r h e
    have : s = [] := List.eq_nil_of_length_eq_zero (by omega)
    subst this; cases e
  | succ k ih =>
    intro out s w r h e
    cases s with
    | nil => cases e
    | cons c t =>
      rw [q_cons] at e
      simp only [List.length_cons] at h ⊢
      split at e
      · split at e
        · simp only [Option.some.injEq, Prod.mk.injEq] at e
          obtain ⟨rfl, rfl⟩ := e
          omega
        · cases e
      · split at e
        · split at e
          · rename_i x n he
            have hp := esc_pos he
            have := ih (by rw [List.length_drop]; omega) e
            simp only [List.length_append, List.length_cons, List.length_nil, List.length_drop] at this
            omega
          · cases e
        · have := ih (by omega) e
          simp only [List.length_append, List.length_cons, List.length_nil] at this
          omega

def trimL : List UInt8 → List UInt8 := List.dropWhile blankB
def wordOf (s : List UInt8) : List UInt8 := s.takeWhile fun c => !blankB c
def behindOf (s : List UInt8) : List UInt8 := s.dropWhile fun c => !blankB c

def sf : Nat → List W → List UInt8 → Option (List W)
  | 0, _, _ => none
  | k + 1, l, s => match trimL s with
    | [] => some l
    | c :: r => if c = 35 then some l
      else if c = 34 then (match qscan [] r with
        | some (w, t) => sf k (l ++ [⟨w, true⟩]) t
        | none => none)
      else if bareWord (wordOf (c :: r)) then sf k (l ++ [⟨wordOf (c :: r), false⟩]) (behindOf (c :: r)) else none

theorem length_trimL (s) : (trimL s).length ≤ s.length := (List.dropWhile_sublist _).length_le
theorem head_trimL {s c r} (h : trimL s = c :: r) : blankB c = false := by
  induction s with
  | nil => cases h
  | cons d t ih =>
    rw [trimL, List.dropWhile_cons] at h
    split at h
    · exact ih h
    · rename_i hb
      simp only [List.cons.injEq] at h
      rw [← h.1]; simpa using hb
theorem behind_lt {c r} (h : blankB c = false) : (behindOf (c :: r)).length ≤ r.length := by
  unfold behindOf
  rw [List.dropWhile_cons]
  simp only [h, Bool.not_false, if_true]
  exact (List.dropWhile_sublist _).length_le

theorem sf_fuel {k : Nat} : ∀ {m : Nat} {l s}, s.length < k → s.length < m → sf k l s = sf m l s := by
  induction k with
  | zero => intro m l s h; omega
  | succ k ih =>
    intro m l s hk hm
    obtain ⟨m, rfl⟩ : ∃ j, m = j + 1 := ⟨m - 1, by omega⟩
    simp only [sf]
    have hl := length_trimL s
    cases ht : trimL s with
    | nil => rfl
    | cons c r =>
      rw [ht, List.length_cons] at hl
      simp only
      split
      · rfl
      · split
        · cases hq : qscan [] r with
          | none => rfl
          | some p =>
            obtain ⟨w, t⟩ := p
            have := q_len (Nat.le_refl _) hq
            simp only [List.length_nil] at this
            exact ih (by omega) (by omega)
        · split
          · have := behind_lt (r := r) (head_trimL ht)
            exact ih (by omega) (by omega)
          · rfl

def splitFrom (l : List W) (s : List UInt8) : Option (List W) := sf (s.length + 1) l s
def splitB (s : List UInt8) : Option (List W) := splitFrom [] s

theorem splitFrom_eq (l s) : splitFrom l s = match trimL s with
    | [] => some l
    | c :: r => if c = 35 then some l
      else if c = 34 then (match qscan [] r with
        | some (w, t) => splitFrom (l ++ [⟨w, true⟩]) t
        | none => none)
      else if bareWord (wordOf (c :: r)) then splitFrom (l ++ [⟨wordOf (c :: r), false⟩]) (behindOf (c :: r)) else none := by
  rw [splitFrom]
  simp only [sf]
  have hl := length_trimL s
  cases ht : trimL s with
  | nil => rfl
  | cons c r =>
    rw [ht, List.length_cons] at hl
    simp only
    split
    · rfl
    · split
      · cases hq : qscan [] r with
        | none => rfl
        | some p =>
          obtain ⟨w, t⟩ := p
          have := q_len (Nat.le_refl _) hq
          simp only [List.length_nil] at this
          exact sf_fuel (by omega) (by omega)
      · split
        · have := behind_lt (r := r) (head_trimL ht)
          exact sf_fuel (by omega) (by omega)
        · rfl

def hexd (n : UInt8) : UInt8 := if n < 10 then 48 + n else 87 + n
def escByte (c : UInt8) : List UInt8 :=
  if c = 10 then [92, 110] else if c = 92 ∨ c = 34 then [92, c] else if 32 ≤ c ∧ c ≤ 126 then [c] else [92, 120, hexd (c / 16), hexd (c % 16)]
def quoteB (s : List UInt8) : List UInt8 := if bareWord s then s else 34 :: (s.flatMap escByte ++ [34])
def joinB : List (List UInt8) → List UInt8
  | [] => []
  | [s] => quoteB s
  | s :: t :: l => quoteB s ++ 32 :: joinB (t :: l)

theorem hexv_hexd : ∀ n : Fin 256, n.val < 16 → hexv (hexd (UInt8.ofNat n.val)) = some (UInt8.ofNat n.val) := by decide +kernel
theorem q_escByte (c : UInt8) (out t) : qscan out (escByte c ++ t) = qscan (out ++ [c]) t := by
  unfold escByte
  split
  · rename_i h; subst h; simp [q_cons, escB]
  · split
    · rename_i h
      rcases h with rfl | rfl <;> simp [q_cons, escB]
    · split
      · rename_i h1 h2 h3
        have h4 : c ≠ 34 := fun h => h2 (.inr h)
        have h5 : c ≠ 92 := fun h => h2 (.inl h)
        simp [q_cons, h4, h5]
      · have h1 : ∀ c : Fin 256, hexv (hexd (UInt8.ofNat c.val / 16)) = some (UInt8.ofNat c.val / 16) := by decide +kernel
        have h2 : ∀ c : Fin 256, hexv (hexd (UInt8.ofNat c.val % 16)) = some (UInt8.ofNat c.val % 16) := by decide +kernel
        have h3 : ∀ c : Fin 256, 16 * (UInt8.ofNat c.val / 16) + UInt8.ofNat c.val % 16 = UInt8.ofNat c.val := by decide +kernel
        have e : c = UInt8.ofNat (⟨c.toNat, c.toNat_lt⟩ : Fin 256).val := by simp
        have g1 := h1 ⟨c.toNat, c.toNat_lt⟩
        have g2 := h2 ⟨c.toNat, c.toNat_lt⟩
        have g3 := h3 ⟨c.toNat, c.toNat_lt⟩
        rw [← e] at g1 g2 g3
        simp [q_cons, escB, codeB, g1, g2, g3]

theorem q_quoted (s : List UInt8) : ∀ (out t), stopsB t = true → qscan out (s.flatMap escByte ++ 34 :: t) = some (out ++ s, t) := by
  induction s with
  | nil => intro out t h; simp [q_cons, h]
  | cons c s ih =>
    intro out t h
    rw [List.flatMap_cons, List.append_assoc, q_escByte, ih _ _ h]
    simp

def mkW (s : List UInt8) : W := ⟨s, !bareWord s⟩
def endsB : List UInt8 → Bool
  | [] => true
  | c :: _ => blankB c
theorem stops_of_ends {t} (h : endsB t = true) : stopsB t = true := by
  cases t with
  | nil => rfl
  | cons c r => simp only [endsB] at h; simp [stopsB, h]
theorem bare_not_blank {c} (h : bareB c = true) : blankB c = false := by
  have : ∀ c : Fin 256, bareB (UInt8.ofNat c.val) = true → blankB (UInt8.ofNat c.val) = false := by decide +kernel
  have g := this ⟨c.toNat, c.toNat_lt⟩
  simp only [UInt8.ofNat_toNat] at g
  exact g h
theorem bare_ne {c} (h : bareB c = true) : c ≠ 34 ∧ c ≠ 92 ∧ 32 < c ∧ c ≤ 126 := by
  unfold bareB at h
  simp only [Bool.and_eq_true, decide_eq_true_eq, bne_iff_ne, ne_eq] at h
  exact ⟨h.1.2, h.2, h.1.1.1, h.1.1.2⟩
theorem bareWord_iff {s : List UInt8} : bareWord s = true ↔ s ≠ [] ∧ s.head? ≠ some 35 ∧ ∀ c ∈ s, bareB c = true := by
  unfold bareWord
  simp only [Bool.and_eq_true, List.all_eq_true, Bool.not_eq_true', List.isEmpty_eq_false_iff, bne_iff_ne, ne_eq]
  constructor
  · rintro ⟨⟨a, b⟩, c⟩; exact ⟨b, c, a⟩
  · rintro ⟨a, b, c⟩; exact ⟨⟨c, a⟩, b⟩
theorem takeWhile_word {s t : List UInt8} (hs : ∀ c ∈ s, blankB c = false) (ht : endsB t = true) : wordOf (s ++ t) = s ∧ behindOf (s ++ t) = t := by
  induction s with
  | nil =>
    cases t with
    | nil => exact ⟨rfl, rfl⟩
    | cons c r => simp only [endsB] at ht; simp [wordOf, behindOf, ht]
  | cons c s ih =>
    have hc := hs c (by simp)
    have := ih (fun d hd => hs d (by simp [hd]))
    unfold wordOf behindOf at this ⊢
    simp [hc, this]
theorem splitFrom_blank (l c s) (h : blankB c = true) : splitFrom l (c :: s) = splitFrom l s := by
  rw [splitFrom_eq, splitFrom_eq l s]
  have : trimL (c :: s) = trimL s := by unfold trimL; rw [List.dropWhile_cons, if_pos h]
  rw [this]
theorem splitFrom_quote (l : List W) (s t : List UInt8) (h : endsB t = true) : splitFrom l (quoteB s ++ t) = splitFrom (l ++ [mkW s]) t := by
  unfold quoteB mkW
  split
  · rename_i hb
    obtain ⟨h1, h2, h3⟩ := bareWord_iff.1 hb
    cases s with
    | nil => exact absurd rfl h1
    | cons c s =>
      have hc := h3 c (by simp)
      have hw := takeWhile_word (s := c :: s) (t := t) (fun d hd => bare_not_blank (h3 d hd)) h
      have ht : trimL (c :: s ++ t) = c :: (s ++ t) := by unfold trimL; simp [bare_not_blank hc]
      rw [splitFrom_eq, ht]
      simp only
      have hn : c ≠ 35 := by simpa using h2
      rw [if_neg hn, if_neg (bare_ne hc).1, ← List.cons_append, hw.1, hw.2, if_pos hb, hb]
      rfl
  · rename_i hb
    have ht : trimL (34 :: (s.flatMap escByte ++ [34]) ++ t) = 34 :: (s.flatMap escByte ++ 34 :: t) := by
      unfold trimL; simp [blankB]
    rw [splitFrom_eq, ht]
    simp only
    rw [if_neg (by decide), if_pos trivial, q_quoted s [] t (stops_of_ends h)]
    simp [hb]
theorem splitFrom_join (ws : List (List UInt8)) : ∀ (l : List W) (t : List UInt8), endsB t = true → splitFrom l (joinB ws ++ t) = splitFrom (l ++ ws.map mkW) t := by
  induction ws with
  | nil => intro l t _; simp [joinB]
  | cons s ws ih =>
    intro l t h
    cases ws with
    | nil => simp only [joinB, List.map_cons, List.map_nil]; exact splitFrom_quote l s t h
    | cons s' ws =>
      simp only [joinB]
      rw [List.append_assoc, splitFrom_quote _ _ _ (by simp [endsB, blankB]), List.cons_append, splitFrom_blank _ _ _ (by decide), ih _ _ h]
      simp
theorem split_join (ws : List (List UInt8)) : splitB (joinB ws) = some (ws.map mkW) := by
  have h := splitFrom_join ws [] [] rfl
  simp only [List.append_nil, List.nil_append] at h
  rw [splitB, h]; rfl
theorem split_join_comment (ws : List (List UInt8)) (b : List UInt8) : splitB (joinB ws ++ 32 :: 35 :: b) = some (ws.map mkW) := by
  rw [splitB, splitFrom_join ws [] _ (by simp [endsB, blankB]), splitFrom_blank _ _ _ (by decide), splitFrom_eq]
  simp [trimL, blankB]

/-! lengths -/
theorem escByte_len (c : UInt8) : (escByte c).length ≤ 4 := by
  unfold escByte; split <;> (try simp) <;> split <;> (try simp) <;> split <;> simp
theorem flatMap_len (s : List UInt8) : (s.flatMap escByte).length ≤ 4 * s.length := by
  induction s with
  | nil => simp
  | cons c s ih => rw [List.flatMap_cons, List.length_append, List.length_cons]; have := escByte_len c; omega
theorem quote_len (s : List UInt8) : (quoteB s).length ≤ 4 * s.length + 2 := by
  unfold quoteB; split
  · omega
  · simp only [List.length_cons, List.length_append, List.length_nil]; have := flatMap_len s; omega
theorem quote_ne_nil (s : List UInt8) : quoteB s ≠ [] := by
  unfold quoteB; split
  · rename_i h; exact (bareWord_iff.1 h).1
  · simp
theorem join_len (ws : List (List UInt8)) (n : Nat) (h : ∀ s ∈ ws, (quoteB s).length ≤ n) : (joinB ws).length ≤ ws.length * (n + 1) := by
  induction ws with
  | nil => simp [joinB]
  | cons s ws ih =>
    have h1 := h s (by simp)
    have h2 := ih (fun t ht => h t (by simp [ht]))
    cases ws with
    | nil => simp only [joinB, List.length_cons, List.length_nil]; omega
    | cons s' ws =>
      simp only [joinB, List.length_append, List.length_cons] at h2 ⊢
      have : (ws.length + 1 + 1) * (n + 1) = (ws.length + 1) * (n + 1) + (n + 1) := by rw [Nat.add_mul]; omega
      omega

/-- what a wordOf takes on a line, with a blankB behindOf it -/
def cost (w : W) : Nat := (quoteB w.s).length + 1
def costs : List W → Nat
  | [] => 0
  | w :: l => cost w + costs l
theorem costs_append (a b : List W) : costs (a ++ b) = costs a + costs b := by
  induction a with
  | nil => simp [costs]
  | cons w a ih => simp only [List.cons_append, costs, ih]; omega
theorem join_costs (l : List W) : (joinB (l.map W.s)).length ≤ costs l := by
  induction l with
  | nil => simp [joinB]
  | cons w l ih =>
    cases l with
    | nil => simp [joinB, costs, cost]
    | cons w' l =>
      simp only [List.map_cons, joinB, List.length_append, List.length_cons, costs, cost] at ih ⊢
      omega
theorem word_len (s : List UInt8) : (wordOf s).length + (behindOf s).length = s.length := by
  unfold wordOf behindOf
  rw [← List.length_append, List.takeWhile_append_dropWhile]
theorem splitFrom_costs {k : Nat} : ∀ {l s r}, s.length ≤ k → splitFrom l s = some r → costs r ≤ costs l + 4 * s.length := by
  induction k with
  | zero =>
    intro l s r h e
    have : s = [] := List.eq_nil_of_length_eq_zero (by omega)
    subst this
    rw [splitFrom_eq] at e
    simp [trimL] at e
    subst e
    omega
  | succ k ih =>
    intro l s r h e
    rw [splitFrom_eq] at e
    have hl := length_trimL s
    cases ht : trimL s with
    | nil =>
      rw [ht] at e
      simp at e
      subst e; omega
    | cons c t =>
      rw [ht] at e
      rw [ht, List.length_cons] at hl
      simp only at e
      split at e
      · simp at e; subst e; omega
      · split at e
        · cases hq : qscan [] t with
          | none => rw [hq] at e; cases e
          | some p =>
            obtain ⟨w, u⟩ := p
            rw [hq] at e
            simp only at e
            have h1 := q_len (Nat.le_refl _) hq
            simp only [List.length_nil] at h1
            have h2 := ih (by omega) e
            rw [costs_append] at h2
            simp only [costs, cost] at h2
            have h3 := quote_len w
            omega
        · split at e
          · rename_i hb
            have h1 := word_len (c :: t)
            have h4 := behind_lt (r := t) (head_trimL ht)
            simp only [List.length_cons] at h1
            have h2 := ih (by omega) e
            rw [costs_append] at h2
            simp only [costs, cost] at h2
            have h3 : quoteB (wordOf (c :: t)) = wordOf (c :: t) := by unfold quoteB; rw [if_pos hb]
            rw [h3] at h2
            omega
          · cases e
theorem split_again {s r} (h : splitB s = some r) : (joinB (r.map W.s)).length ≤ 4 * s.length := by
  have h1 := splitFrom_costs (Nat.le_refl _) (show splitFrom [] s = some r from h)
  have h2 := join_costs r
  simp only [costs] at h1
  omega

end Lx
