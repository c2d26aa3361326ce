/- THE PLAIN LAW OF command.Parse: a command that may be, written and parsed, is the command; what is parsed may be. -/
import Derived.Test.YtnkhiaikdmpimaaGreatDoorParLawB
namespace Lx
open Go.Lib

/-- a part copied -/
def putP (d c : Cmd) : Nat → Cmd
  | 0 => { d with set := c.set } | 1 => { d with snap := c.snap } | 2 => { d with other := c.other } | 3 => { d with cell := c.cell }
  | 4 => { d with text := c.text } | 5 => { d with now := c.now } | 6 => { d with keep := c.keep } | _ => d
theorem take_raw (c d : Cmd) (hc0 : 0 ≤ c.cell) (hc1 : c.cell < 16) (hn0 : 0 ≤ c.now) (hn1 : c.now < 18446744073709551616) (hk : polB c.keep = true) (p : Nat) (hp : p ≤ 8) :
    takeP d p (mkW (rawP c p)) = (putP d c p, true) := by
  have hnum : ∀ n : Int, 0 ≤ n → n < 18446744073709551616 → number (mkW (itoa n)).s = (n.toNat, 0) ∧ numOk (mkW (itoa n)) = true := by
    intro n h0 h1
    have hs : (mkW (itoa n)).s = decDigits n.toNat := itoa_dec h0
    have hq : (mkW (itoa n)).qd = false := by
      show (!bareWord (itoa n)) = false
      rw [itoa_dec h0, bare_dec]; rfl
    have hnn := number_dec n.toNat (by omega)
    refine ⟨by rw [hs]; exact hnn, ?_⟩
    unfold numOk
    rw [hs, hnn, hq]; rfl
  match p, hp with
  | 0, _ => rfl
  | 1, _ => rfl
  | 2, _ => rfl
  | 3, _ =>
    have h := hnum c.cell hc0 (by omega)
    show (({ d with cell := ((min (number (mkW (itoa c.cell)).s).1 16 : Nat) : Int) } : Cmd), numOk (mkW (itoa c.cell))) = _
    rw [h.1, h.2]
    have : ((min c.cell.toNat 16 : Nat) : Int) = c.cell := by omega
    simp only [this]; rfl
  | 4, _ => rfl
  | 5, _ =>
    have h := hnum c.now hn0 hn1
    show (({ d with now := ((number (mkW (itoa c.now)).s).1 : Int) } : Cmd), numOk (mkW (itoa c.now))) = _
    rw [h.1, h.2]
    have : ((c.now.toNat : Nat) : Int) = c.now := by omega
    simp only [this]; rfl
  | 6, _ =>
    show (match polParse (polText c.keep) with | some k => (({ d with keep := k } : Cmd), true) | none => ({ d with keep := Pol.zero }, false)) = _
    rw [polParse_text _ hk]; rfl
  | 7, _ => show (d, isTheP (mkW [64]) [64]) = _; rw [show isTheP (mkW [64]) [64] = true from by decide +kernel]; rfl
  | 8, _ => show (d, isTheP (mkW v_from) v_from) = _; rw [show isTheP (mkW v_from) v_from = true from by decide +kernel]; rfl
  | (q + 9), h => exact absurd h (by omega)
theorem takeAll_raw (c : Cmd) (hc0 : 0 ≤ c.cell) (hc1 : c.cell < 16) (hn0 : 0 ≤ c.now) (hn1 : c.now < 18446744073709551616) (hk : polB c.keep = true) :
    ∀ (r : List Nat) (d : Cmd), (∀ p ∈ r, p ≤ 8) → takeAll d (r.zip (r.map fun p => mkW (rawP c p))) = some (r.foldl (fun x p => putP x c p) d)
  | [], d, _ => rfl
  | p :: r, d, h => by
    have ih := takeAll_raw c hc0 hc1 hn0 hn1 hk r (putP d c p) (fun q hq => h q (by simp [hq]))
    rw [List.map_cons, List.zip_cons_cons, takeAll, take_raw c d hc0 hc1 hn0 hn1 hk p (h p (by simp)), if_pos rfl, List.foldl_cons]
    exact ih
def allR : List (List Nat) := [[0], [0, 3, 4], [0, 3], [0, 7, 1, 3], [0, 1], [0, 1, 2], [0, 1, 8, 2], [], [0, 5, 6], [0, 5]]
def allRs : List (List (List Nat)) := [[[0]], [[0, 3, 4]], [[0, 3]], [[0, 3], [0, 7, 1, 3]], [[0, 1]], [[0, 1, 2]], [[0, 1], [0, 1, 8, 2]], [[]], [[0, 5, 6]], [[0, 5]], []]
theorem ite_in {α : Type} {l : List α} {p : Prop} [Decidable p] {a b : α} (ha : a ∈ l) (hb : b ∈ l) : (if p then a else b) ∈ l := by
  by_cases h : p
  · rw [if_pos h]; exact ha
  · rw [if_neg h]; exact hb
theorem rowsP_in (v : List UInt8) : rowsP v ∈ allRs := by
  unfold rowsP
  repeat' refine ite_in ?_ ?_
  all_goals decide
theorem allRs_ok : ∀ rs ∈ allRs, (∀ r ∈ rs, r ∈ allR) ∧ ∀ r ∈ rs, ∀ q ∈ rs, r.length = q.length → r = q := by decide
theorem allR_le : ∀ r ∈ allR, ∀ p ∈ r, p ≤ 8 := by decide
theorem name_nil {s : List UInt8} (h : nameB s false = true) : s = [] := by simpa [nameB] using h
/-- what a row does not name is as at the beginning -/
theorem fold_put (c : Cmd) (r : List Nat) (hr : r ∈ allR) (hf : fitsP c r = true) : r.foldl (fun x p => putP x c p) { Cmd.zero with second := c.second, verb := c.verb } = c := by
  obtain ⟨sc, vb, st, sn, ot, tx, cl, nw, kp⟩ := c
  have h0 : nameB st (hasP r 0) = true ∧ nameB sn (hasP r 1) = true ∧ nameB ot (hasP r 2) = true ∧ (tx.isEmpty || hasP r 4) = true ∧ (cl == 0 || hasP r 3) = true ∧ (nw == 0 || hasP r 5) = true ∧ (kp == Pol.zero || hasP r 6) = true := by
    unfold fitsP at hf
    simp only [Bool.and_eq_true] at hf
    exact ⟨hf.1.1.1.1.1.1, hf.1.1.1.1.1.2, hf.1.1.1.1.2, hf.1.1.1.2.2, hf.1.1.2.2, hf.1.2, hf.2.2⟩
  clear hf
  obtain ⟨a0, a1, a2, a4, a3, a5, a6⟩ := h0
  have key : (hasP r 0 = false → st = []) ∧ (hasP r 1 = false → sn = []) ∧ (hasP r 2 = false → ot = []) ∧ (hasP r 4 = false → tx = []) ∧ (hasP r 3 = false → cl = 0) ∧ (hasP r 5 = false → nw = 0) ∧ (hasP r 6 = false → kp = Pol.zero) := by
    refine ⟨fun h => name_nil (h ▸ a0), fun h => name_nil (h ▸ a1), fun h => name_nil (h ▸ a2), fun h => ?_, fun h => ?_, fun h => ?_, fun h => ?_⟩
    · rw [h, Bool.or_false] at a4; simpa using a4
    · rw [h, Bool.or_false] at a3; simpa using a3
    · rw [h, Bool.or_false] at a5; simpa using a5
    · rw [h, Bool.or_false] at a6; simpa using a6
  clear a0 a1 a2 a3 a4 a5 a6
  obtain ⟨k0, k1, k2, k4, k3, k5, k6⟩ := key
  simp only [allR, List.mem_cons, List.not_mem_nil, or_false] at hr
  rcases hr with rfl | rfl | rfl | rfl | rfl | rfl | rfl | rfl | rfl | rfl
  all_goals
    (try have e0 := k0 (by decide)) <;> (try have e1 := k1 (by decide)) <;> (try have e2 := k2 (by decide)) <;> (try have e4 := k4 (by decide)) <;> (try have e3 := k3 (by decide)) <;> (try have e5 := k5 (by decide)) <;> (try have e6 := k6 (by decide))
  all_goals
    clear k0 k1 k2 k3 k4 k5 k6
  all_goals (try subst e0) <;> (try subst e1) <;> (try subst e2) <;> (try subst e4) <;> (try subst e3) <;> (try subst e5) <;> (try subst e6) <;> rfl
theorem findSome_one {α β : Type} (f : α → Option β) (b : β) : ∀ (l : List α) (a : α), a ∈ l → f a = some b → (∀ x ∈ l, x ≠ a → f x = none) → l.findSome? f = some b
  | [], _, h, _, _ => by cases h
  | x :: l, a, h, hb, hn => by
    rw [List.findSome?_cons]
    by_cases e : x = a
    · subst e; rw [hb]
    · rw [hn x (by simp) e]
      exact findSome_one f b l a (by simpa [Ne.symm e] using h) hb (fun y hy => hn y (by simp [hy]))
/-- THERE AND BACK. -/
theorem parse_words {c : Cmd} {r : List Nat} (h : rowOfP c = some r) (hn0 : 0 ≤ c.now) (hn1 : c.now < 18446744073709551616) : parseWords ((headR c ++ r.map (rawP c)).map mkW) = (c, 0) := by
  obtain ⟨hm, hf⟩ := rowOf_mem h
  have hv := verbs0_bare _ (rowOf_verb h)
  have hb : 0 ≤ c.cell ∧ c.cell < 16 ∧ polB c.keep = true := by
    have hf' := hf
    unfold fitsP at hf'
    simp only [Bool.and_eq_true, decide_eq_true_eq] at hf'
    exact ⟨hf'.1.1.2.1.1, hf'.1.1.2.1.2, hf'.2.1⟩
  have hrs := allRs_ok _ (rowsP_in c.verb)
  have hr := hrs.1 r hm
  have hq : (mkW c.verb).qd = false := by show (!bareWord c.verb) = false; rw [hv.1]; rfl
  have hargs : (r.map (rawP c)).map mkW = r.map fun p => mkW (rawP c p) := by rw [List.map_map]; rfl
  have hone : takenP { Cmd.zero with second := c.second, verb := c.verb } r ((r.map (rawP c)).map mkW) = some c := by
    unfold takenP
    rw [if_pos (by simp), hargs, takeAll_raw c hb.1 hb.2.1 hn0 hn1 hb.2.2 r _ (allR_le r hr), fold_put c r hr hf]
    simp only
    rw [if_pos hf]
  have hfs : (rowsP c.verb).findSome? (fun q => takenP { Cmd.zero with second := c.second, verb := c.verb } q ((r.map (rawP c)).map mkW)) = some c := by
    refine findSome_one _ c _ r hm hone (fun q hq hne => ?_)
    unfold takenP
    rw [if_neg (by simp only [List.length_map]; exact fun e => hne (hrs.2 q hq r hm e))]
  have hnot : isTheP (mkW c.verb) v_other = false := by
    unfold isTheP
    have : ((mkW c.verb).s == v_other) = false := by show (c.verb == v_other) = false; simpa using hv.2
    rw [this]; rfl
  cases hs : c.second with
  | false =>
    have e : (headR c ++ r.map (rawP c)).map mkW = mkW c.verb :: (r.map (rawP c)).map mkW := by unfold headR; rw [hs]; rfl
    rw [hs] at hfs
    rw [e]
    unfold parseWords
    simp only [hnot, Bool.false_eq_true, if_false, hq]
    exact congrArg (fun o : Option Cmd => match o with | some d => (d, (0 : Int)) | none => (Cmd.zero, 3)) hfs
  | true =>
    have e : (headR c ++ r.map (rawP c)).map mkW = mkW v_other :: mkW c.verb :: (r.map (rawP c)).map mkW := by unfold headR; rw [hs]; rfl
    rw [hs] at hfs
    rw [e]
    unfold parseWords
    have ho : isTheP (mkW v_other) v_other = true := by decide +kernel
    simp only [ho, if_true, hq, Bool.false_eq_true, if_false]
    exact congrArg (fun o : Option Cmd => match o with | some d => (d, (0 : Int)) | none => (Cmd.zero, 3)) hfs
theorem parse_back {c : Cmd} {r : List Nat} (h : rowOfP c = some r) (hn0 : 0 ≤ c.now) (hn1 : c.now < 18446744073709551616) :
    parseP (textB c).1 = if 1000 < (textB c).1.length then (Cmd.zero, 4) else (c, 0) := by
  unfold parseP
  by_cases hl : 1000 < (textB c).1.length
  · rw [if_pos hl, if_pos hl]
  · rw [if_neg hl, if_neg hl, text_join h hn0, split_join]
    exact parse_words h hn0 hn1

/-! what is parsed may be -/
theorem take_keeps (c : Cmd) (p : Nat) (w : W) (hn : 0 ≤ c.now ∧ c.now < 18446744073709551616) : (takeP c p w).1.verb = c.verb ∧ (takeP c p w).1.second = c.second ∧ 0 ≤ (takeP c p w).1.now ∧ (takeP c p w).1.now < 18446744073709551616 := by
  match p with
  | 0 => exact ⟨rfl, rfl, hn⟩
  | 1 => exact ⟨rfl, rfl, hn⟩
  | 2 => exact ⟨rfl, rfl, hn⟩
  | 3 => exact ⟨rfl, rfl, hn⟩
  | 4 => exact ⟨rfl, rfl, hn⟩
  | 5 =>
    have := number_lt w.s
    exact ⟨rfl, rfl, by show (0 : Int) ≤ ((number w.s).1 : Int); omega, by show ((number w.s).1 : Int) < _; omega⟩
  | 6 =>
    have e : takeP c 6 w = match polParse w.s with | some k => (({ c with keep := k } : Cmd), true) | none => ({ c with keep := Pol.zero }, false) := rfl
    rw [e]
    cases polParse w.s <;> exact ⟨rfl, rfl, hn⟩
  | 7 => exact ⟨rfl, rfl, hn⟩
  | (q + 8) => exact ⟨rfl, rfl, hn⟩
theorem takeAll_keeps : ∀ (l : List (Nat × W)) (c d : Cmd), (0 ≤ c.now ∧ c.now < 18446744073709551616) → takeAll c l = some d → d.verb = c.verb ∧ 0 ≤ d.now ∧ d.now < 18446744073709551616
  | [], c, d, hn, h => by
    have : c = d := by simpa [takeAll] using h
    subst this; exact ⟨rfl, hn⟩
  | (p, w) :: l, c, d, hn, h => by
    unfold takeAll at h
    split at h
    · have hk := take_keeps c p w hn
      have := takeAll_keeps l _ d hk.2.2 h
      exact ⟨this.1.trans hk.1, this.2⟩
    · cases h
theorem taken_fits {c d : Cmd} {r : List Nat} {l : List W} (hn : 0 ≤ c.now ∧ c.now < 18446744073709551616) (h : takenP c r l = some d) : fitsP d r = true ∧ d.verb = c.verb ∧ 0 ≤ d.now ∧ d.now < 18446744073709551616 := by
  unfold takenP at h
  split at h
  · split at h
    · rename_i x hx
      split at h
      · rename_i hf
        obtain rfl : x = d := Option.some.inj h
        exact ⟨hf, takeAll_keeps _ _ _ hn hx⟩
      · cases h
    · cases h
  · cases h
theorem rowOf_some {c : Cmd} {r : List Nat} (hm : r ∈ rowsP c.verb) (hf : fitsP c r = true) : ∃ q, rowOfP c = some q := by
  have : ((rowsP c.verb).find? (fitsP c)).isSome = true := by rw [List.find?_isSome]; exact ⟨r, hm, hf⟩
  exact Option.isSome_iff_exists.1 this
theorem parseWords_may (ws : List W) : ((parseWords ws).2 = 0 ∧ ∃ q, rowOfP (parseWords ws).1 = some q ∧ 0 ≤ (parseWords ws).1.now ∧ (parseWords ws).1.now < 18446744073709551616) ∨ ((parseWords ws).2 ≠ 0 ∧ (parseWords ws).1 = Cmd.zero) := by
  unfold parseWords
  split
  · exact .inr ⟨by decide, rfl⟩
  · split
    · exact .inr ⟨by decide, rfl⟩
    · split
      · exact .inr ⟨by decide, rfl⟩
      · split
        · rename_i d hd
          obtain ⟨r, hr, hx⟩ := List.exists_of_findSome?_eq_some hd
          have ht := taken_fits (show (0 : Int) ≤ 0 ∧ (0 : Int) < 18446744073709551616 from ⟨by decide, by decide⟩) hx
          obtain ⟨q, hq⟩ := rowOf_some (c := d) (r := r) (by rw [ht.2.1]; exact hr) ht.1
          exact .inl ⟨rfl, q, hq, ht.2.2⟩
        · exact .inr ⟨by decide, rfl⟩
theorem parse_may (line : List UInt8) : ((parseP line).2 = 0 ∧ ∃ q, rowOfP (parseP line).1 = some q ∧ 0 ≤ (parseP line).1.now ∧ (parseP line).1.now < 18446744073709551616) ∨ ((parseP line).2 ≠ 0 ∧ (parseP line).1 = Cmd.zero) := by
  unfold parseP
  split
  · exact .inr ⟨by decide, rfl⟩
  · split
    · exact .inr ⟨by decide, rfl⟩
    · exact parseWords_may _
end Lx
