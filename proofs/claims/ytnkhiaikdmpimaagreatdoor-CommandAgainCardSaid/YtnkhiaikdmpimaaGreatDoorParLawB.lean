/- THE PLAIN LAW OF policy.Parse: what a policy is written as is parsed as it was. -/
import Derived.Test.YtnkhiaikdmpimaaGreatDoorParLaw
namespace Lx
open Go.Lib

/-! words between spaces -/
theorem splitSp_word : ∀ (a : List UInt8), (∀ c ∈ a, c ≠ 32) → splitSp a = [a]
  | [], _ => rfl
  | c :: a, h => by
    have ih := splitSp_word a (fun x hx => h x (by simp [hx]))
    rw [splitSp, if_neg (h c (by simp)), ih]
theorem splitSp_cons : ∀ (a : List UInt8) (t : List UInt8), (∀ c ∈ a, c ≠ 32) → splitSp (a ++ 32 :: t) = a :: splitSp t
  | [], t, _ => by rw [List.nil_append, splitSp, if_pos rfl]
  | c :: a, t, h => by
    have ih := splitSp_cons a t (fun x hx => h x (by simp [hx]))
    rw [List.cons_append, splitSp, if_neg (h c (by simp)), ih]
theorem splitSp_join : ∀ (l : List (List UInt8)), l ≠ [] → (∀ s ∈ l, ∀ c ∈ s, c ≠ 32) → splitSp (joinSp l) = l
  | [], h, _ => absurd rfl h
  | [s], _, h => by rw [joinSp_one]; exact splitSp_word s (h s (by simp))
  | s :: t :: l, _, h => by
    have ih := splitSp_join (t :: l) (by simp) (fun x hx => h x (by simp [hx]))
    have e : joinSp (s :: t :: l) = s ++ 32 :: joinSp (t :: l) := by
      unfold joinSp
      simp only [join, List.intercalate, List.intersperse, List.flatten_cons]
      rfl
    rw [e, splitSp_cons s _ (h s (by simp)), ih]

theorem cutEq_word (nm d : List UInt8) (h : ∀ c ∈ nm, c ≠ 61) : cutEq (nm ++ 61 :: d) = (nm, d) := by
  unfold cutEq
  have h1 : (nm ++ 61 :: d).takeWhile (· != 61) = nm := by
    rw [List.takeWhile_append_of_pos (fun c hc => by simpa using h c hc)]; simp
  have h2 : (nm ++ 61 :: d).dropWhile (· != 61) = 61 :: d := by
    rw [List.dropWhile_append_of_pos (fun c hc => by simpa using h c hc)]; simp
  rw [h1, h2]; rfl
theorem polNames_ok : ∀ nm ∈ polNames, (∀ c ∈ nm, c ≠ 61) ∧ (∀ c ∈ nm, c ≠ 32) := by decide +kernel
theorem dec_len4 {m : Nat} (h : m ≤ 9999) : (decDigits m).length ≤ 4 := by
  rw [decDigits_length]; exact nDigits_le 4 m (by omega) (by decide)
theorem cntP_dec {m : Nat} (h0 : 0 < m) (h : m ≤ 9999) : cntP (decDigits m) = m := by
  unfold cntP
  rw [decide_eq_true (dec_len4 h), dec_digits]
  have h2 : ((decDigits m).head? != some 48) = true := by simpa using dec_head m h0
  rw [h2, show (true && true && true) = true from rfl, if_pos rfl, decv_dec]
theorem find_name : ∀ i : Fin 6, ∀ j : Fin 5, i.val ≤ j.val → findName i.val (polNames[j.val]'j.isLt) = some j.val := by decide +kernel
/-- a part's word, taken -/
theorem polStep_word (k : Pol) (i j : Nat) (hij : i ≤ j) (hj : j < 5) (n : Int) (h0 : 0 < n) (h1 : n ≤ 9999) :
    polStep (k, i) (polWord (polNames[j]'hj, n)) = some (k.put j n, j + 1) := by
  have hnm := (polNames_ok _ (List.getElem_mem (l := polNames) hj)).1
  have hc : cutEq (polWord (polNames[j]'hj, n)) = (polNames[j]'hj, itoa n) := cutEq_word _ _ hnm
  have hfn := find_name ⟨i, by omega⟩ ⟨j, hj⟩ hij
  have hcn : cntP (itoa n) = n.toNat := by rw [itoa_dec (by omega)]; exact cntP_dec (by omega) (by omega)
  unfold polStep
  simp only [hc]
  simp only at hfn
  rw [hfn]
  simp only [hcn]
  rw [if_neg (by omega), show ((n.toNat : Nat) : Int) = n by omega]

/-- the parts from the i-th on, taken one after another -/
theorem fold_one (k : Pol) (i j : Nat) (hij : i ≤ j) (hj : j < 5) (n : Int) (h0 : 0 ≤ n) (h1 : n ≤ 9999) (rest : List (List UInt8 × Int)) (P : Option (Pol × Nat) → Prop)
    (hy : 0 < n → P ((polWords rest).foldlM polStep (k.put j n, j + 1))) (hn : n = 0 → P ((polWords rest).foldlM polStep (k, i))) :
    P ((polWords ((polNames[j]'hj, n) :: rest)).foldlM polStep (k, i)) := by
  by_cases h : 0 < n
  · have e : polWords ((polNames[j]'hj, n) :: rest) = polWord (polNames[j]'hj, n) :: polWords rest := by
      unfold polWords; rw [List.filter_cons, if_pos (by simpa using h)]; rfl
    rw [e, List.foldlM_cons, polStep_word k i j hij hj n h h1]
    exact hy h
  · have e : polWords ((polNames[j]'hj, n) :: rest) = polWords rest := by
      unfold polWords; rw [List.filter_cons, if_neg (by simpa using h)]
    rw [e]
    exact hn (by omega)
theorem fold_all (k : Pol) (h : polB k = true) : ((polWords k.pairs).foldlM polStep (Pol.zero, 0)).map (·.1) = some k := by
  obtain ⟨a, b, c, d, e⟩ := k
  unfold polB numB at h
  simp only [Bool.and_eq_true, decide_eq_true_eq] at h
  obtain ⟨⟨⟨⟨ha, hb⟩, hc⟩, hd⟩, he⟩ := h
  have hpairs : (⟨a, b, c, d, e⟩ : Pol).pairs = [(polNames[0], a), (polNames[1], b), (polNames[2], c), (polNames[3], d), (polNames[4], e)] := rfl
  rw [hpairs]
  have hend : ∀ (x : Pol) (i : Nat), ((polWords []).foldlM polStep (x, i)).map (·.1) = some x := fun x i => rfl
  refine fold_one Pol.zero 0 0 (by omega) (by omega) a ha.1 ha.2 _ (fun o => o.map (·.1) = some ⟨a, b, c, d, e⟩) (fun pa => ?_) (fun za => ?_)
  all_goals refine fold_one _ _ 1 (by omega) (by omega) b hb.1 hb.2 _ (fun o => o.map (·.1) = some ⟨a, b, c, d, e⟩) (fun pb => ?_) (fun zb => ?_)
  all_goals refine fold_one _ _ 2 (by omega) (by omega) c hc.1 hc.2 _ (fun o => o.map (·.1) = some ⟨a, b, c, d, e⟩) (fun pc => ?_) (fun zc => ?_)
  all_goals refine fold_one _ _ 3 (by omega) (by omega) d hd.1 hd.2 _ (fun o => o.map (·.1) = some ⟨a, b, c, d, e⟩) (fun pd => ?_) (fun zd => ?_)
  all_goals refine fold_one _ _ 4 (by omega) (by omega) e he.1 he.2 _ (fun o => o.map (·.1) = some ⟨a, b, c, d, e⟩) (fun pe => ?_) (fun ze => ?_)
  all_goals (try subst za) <;> (try subst zb) <;> (try subst zc) <;> (try subst zd) <;> (try subst ze) <;> rfl
theorem digit_ne {m : Nat} : ∀ c ∈ decDigits m, c ≠ 32 ∧ c ≠ 61 := by
  intro c hc
  have hd := dec_digits m
  rw [List.all_eq_true] at hd
  have h := hd c hc
  unfold isDigit at h
  simp only [Bool.and_eq_true, decide_eq_true_eq] at h
  constructor <;> (rintro rfl; revert h; decide)
theorem polWords_nosp (k : Pol) : ∀ s ∈ polWords k.pairs, ∀ c ∈ s, c ≠ 32 := by
  intro s hs c hc
  obtain ⟨x, hx, rfl⟩ := List.mem_map.1 hs
  have hx' := List.mem_filter.1 hx
  obtain ⟨nm, n⟩ := x
  have hz := List.of_mem_zip hx'.1
  have hn : 0 < n := by simpa using hx'.2
  unfold polWord at hc
  simp only [List.mem_append, List.mem_cons] at hc
  rcases hc with hc | rfl | hc
  · exact (polNames_ok _ hz.1).2 c hc
  · decide
  · rw [itoa_dec (by omega)] at hc
    exact (digit_ne c hc).1
theorem joinSp_mem_eq : ∀ (l : List (List UInt8)), l ≠ [] → (∀ s ∈ l, 61 ∈ s) → (61 : UInt8) ∈ joinSp l
  | [], h, _ => absurd rfl h
  | x :: r, _, h => by
    unfold joinSp
    rw [join_cons]
    exact List.mem_append.2 (.inl (h x (by simp)))
/-- THERE AND BACK. -/
theorem polParse_text (k : Pol) (h : polB k = true) : polParse (polText k) = some k := by
  have hf := fold_all k h
  unfold polText
  by_cases h0 : polWords k.pairs = []
  · rw [if_pos h0]
    rw [h0] at hf
    have : Pol.zero = k := by simpa using hf
    unfold polParse
    rw [if_pos rfl, this]
  · rw [if_neg h0]
    have hne : joinSp (polWords k.pairs) ≠ v_none := by
      intro e
      have := joinSp_mem_eq (polWords k.pairs) h0 (fun s hs => by
        obtain ⟨x, _, rfl⟩ := List.mem_map.1 hs
        unfold polWord; simp)
      rw [e] at this
      revert this; decide
    unfold polParse
    rw [if_neg hne, splitSp_join _ h0 (polWords_nosp k), hf]
end Lx
