/- lex.Number. -/
import Derived.Test.YtnkhiaikdmpimaaGreatDoorLexC
import Derived.Test.YtnkhiaikdmpimaaGreatDoorNumPlain
import Derived.Lib.SmallJoins
namespace Go.Proofs.YtnkhiaikdmpimaaGreatDoor
open Go.RowKit Lx

def isNone (x : Nat) : Bool := decide (x < 48) || decide (57 < x)
set_option maxHeartbeats 400000 in
theorem isNone_any (x : Nat) (hx : x ≤ 1114111) (w : World) :
    Calls Tryz.prog 94 #[.int .i32 x] w fun e w' => e = .returned (.bool (isNone x)) ∧ Below w.heap.size w w' := by
  have h : isNone x = (decide ((x : Int) < 48) || decide ((57 : Int) < (x : Int))) := by
    unfold isNone
    rw [Bool.eq_iff_iff]; simp
    omega
  rw [h]
  go_enter Tryz.func94, Tryz.ntmps94
  go_wp2
  all_goals go_ret
  all_goals refine ⟨ret_bool ?_, Below.refl _ _⟩
  all_goals (first | rfl | (rw [Bool.eq_iff_iff]; simp; omega))

theorem digit_none {s : ByteArray} {i : Nat} (h : i < s.size) : isNone (Utf8.decode s i).1 = !isDigit (s[i]'h) := by
  by_cases h1 : (s[i]'h).toNat < 128
  · rw [decode_ascii s i h h1]
    unfold isNone isDigit
    rw [Bool.eq_iff_iff]; simp
  · have := (decode_high s i h (by omega)).1
    unfold isNone isDigit
    rw [Bool.eq_iff_iff]; simp
    omega
theorem idx_digits (l : List UInt8) : ∀ (f pos : Nat), l.length ≤ pos + f → decide (0 ≤ Lib.idxFuncFrom isNone true ⟨l.toArray⟩ f pos) = !((l.drop pos).all isDigit)
  | 0, pos, h => by
    rw [List.drop_of_length_le (by omega)]; rfl
  | f + 1, pos, h => by
    have hz : (⟨l.toArray⟩ : ByteArray).size = l.length := by simp [ByteArray.size]
    unfold Lib.idxFuncFrom
    by_cases hp : pos < l.length
    · rw [if_pos (by rw [hz]; exact hp), List.drop_eq_getElem_cons hp, List.all_cons]
      have h1 := digit_none (s := ⟨l.toArray⟩) (i := pos) (by rw [hz]; exact hp)
      rw [str_get] at h1
      cases hd : isDigit l[pos] with
      | true =>
        rw [hd] at h1
        rw [if_neg (by rw [h1]; decide)]
        have hlt : l[pos].toNat < 128 := by
          unfold isDigit at hd
          simp only [Bool.and_eq_true, decide_eq_true_eq] at hd
          omega
        rw [decode_ascii ⟨l.toArray⟩ pos (by rw [hz]; exact hp) (by rw [str_get]; exact hlt), Bool.true_and]
        exact idx_digits l f (pos + 1) (by omega)
      | false =>
        rw [hd] at h1
        rw [if_pos (by rw [h1]; rfl), Bool.false_and]
        rw [Bool.eq_iff_iff]; simp
    · rw [if_neg (by rw [hz]; exact hp), List.drop_of_length_le (by omega)]; rfl
theorem containsNone_any (l : List UInt8) (w : World) :
    Calls Tryz.prog 96 #[.string ⟨l.toArray⟩, .func (.func 94) #[] #[]] w fun e w' => e = .returned (.bool (!l.all isDigit)) ∧ Below w.heap.size w w' := by
  have h := Tryz.strings_ContainsFunc_grows 94 #[] (enters_of Tryz.func94 (by kernel_rfl) rfl) isNone ⟨l.toArray⟩ w (fun W x hx _ => isNone_any x hx W)
  have e : decide (0 ≤ Lib.idxFunc isNone true ⟨l.toArray⟩) = !l.all isDigit := by
    have hz : (⟨l.toArray⟩ : ByteArray).size = l.length := by simp [ByteArray.size]
    unfold Lib.idxFunc
    rw [hz]
    exact idx_digits l l.length 0 (by omega)
  rw [e] at h
  exact h

/-- a sentinel error's cell -/
def ErrAt (g : Nat) (w : World) : Prop := ∃ ev, w.cell? ⟨g, 0, none⟩ = some ev ∧ (ev = .nilIface ∨ ∃ te pe, ev = .iface te pe)
theorem ErrAt.below {g : Nat} {w w' : World} (h : ErrAt g w) (hb : Below w.heap.size w w') : ErrAt g w' := by
  obtain ⟨ev, hc, he⟩ := h
  exact ⟨ev, (hb.cell (p := ⟨g, 0, none⟩) (World.block_lt_of_cell? w _ hc)).trans hc, he⟩
def HasErr (w : World) : Prop := ErrAt 7 w ∧ ErrAt 6 w
theorem HasErr.below {w w' : World} (h : HasErr w) (hb : Below w.heap.size w w') : HasErr w' := ⟨h.1.below hb, h.2.below hb⟩

set_option maxHeartbeats 1000000 in
theorem number_any (l : List UInt8) (hl : l.length ≤ 9223372036854775807) (w : World) (hv : HasErr w) :
    Calls Tryz.prog 78 #[.string ⟨l.toArray⟩] w fun e w' => e = .returned (.tuple #[.int .u64 (number l).1, .int .i64 (number l).2]) ∧ Below w.heap.size w w' := by
  obtain rfl | ⟨c, r, rfl⟩ : l = [] ∨ ∃ c r, l = c :: r := by cases l <;> simp
  · have e : number [] = (0, 3) := by unfold number formed; simp
    rw [e]
    go_enter Tryz.func78, Tryz.ntmps78
    go_wp2_with fail
    go_ret2
    exact ⟨rfl, Below.refl _ _⟩
  by_cases h20 : 20 < (c :: r).length
  · have e : number (c :: r) = (0, 3) := by
      unfold number formed
      rw [show decide ((c :: r).length ≤ 20) = false by simp only [decide_eq_false_iff_not]; omega]; simp
    rw [e]
    have hi : (20 : Int) < (r.length : Int) + 1 := by simp only [List.length_cons] at h20; omega
    go_enter Tryz.func78, Tryz.ntmps78
    go_wp2_with fail
    go_ret2
    exact ⟨rfl, Below.refl _ _⟩
  have hi : (r.length : Int) + 1 ≤ 20 := by simp only [List.length_cons] at h20; omega
  have hlen : (c :: r).length ≤ 20 := by omega
  have HP : ∀ w, Calls Tryz.prog 95 #[.string ⟨(c :: r).toArray⟩, .string ⟨#[48]⟩] w fun e w' => e = .returned (.bool (c == 48)) ∧ w = w' := by
    intro w
    have h := Tryz.strings_HasPrefix ⟨(c :: r).toArray⟩ ⟨#[48]⟩ w
    have e : Lib.hasPrefix (⟨(c :: r).toArray⟩ : ByteArray).data.toList (⟨#[48]⟩ : ByteArray).data.toList = (c == 48) := by
      unfold Lib.hasPrefix; simp [List.isPrefixOf]; rw [Bool.eq_iff_iff]; simp; exact eq_comm
    rw [e] at h
    exact h.mono fun e w' ⟨he, hw⟩ => ⟨he, hw.symm⟩
  -- a text that begins with 0 and goes on
  by_cases hz : c = 48 ∧ r ≠ []
  · obtain ⟨rfl, hr⟩ := hz
    obtain ⟨d, r, rfl⟩ : ∃ d r', r = d :: r' := by cases r with | nil => exact absurd rfl hr | cons d r => exact ⟨d, r, rfl⟩
    have e : number (48 :: d :: r) = (0, 3) := by unfold number formed; simp
    rw [e]
    have HP' := Lib.hid HP
    clear e hl h20 hlen hr HP
    simp only [List.length_cons] at hi
    go_enter Tryz.func78, Tryz.ntmps78
    go_wp2_with (go_at_call 95; refine (HP'.out _).mono ?_; rintro e w' ⟨rfl, rfl⟩)
    go_ret2
    exact ⟨rfl, Below.refl _ _⟩
  have hfm : formed (c :: r) = (c :: r).all isDigit := by
    unfold formed
    rw [show decide ((c :: r).length ≤ 20) = true by simpa using hlen]
    by_cases hc : c = 48
    · have : r = [] := by
        rcases r with _ | ⟨d, r⟩
        · rfl
        · exact absurd ⟨hc, by simp⟩ hz
      subst this; subst hc; rfl
    · simp [hc]
  have hd : number (c :: r) = (0, 3) ∧ (c :: r).all isDigit = false ∨ (c :: r).all isDigit = true ∧
      ((∃ u : Nat, number (c :: r) = (u, 0) ∧ Lib.parseUintB 64 (c :: r) = .ok u) ∨ number (c :: r) = (0, 4) ∧ Lib.parseUintB 64 (c :: r) = .range) := by
    cases ha : (c :: r).all isDigit with
    | false => exact .inl ⟨by unfold number; rw [hfm, ha]; rfl, rfl⟩
    | true =>
      rw [ha] at hfm
      refine .inr ⟨rfl, ?_⟩
      have hp := parse_formed hfm
      by_cases h : decv 0 (c :: r) ≤ 18446744073709551615
      · rw [if_pos h] at hp
        exact .inl ⟨_, by unfold number; rw [if_pos hfm, if_pos (by omega)], hp⟩
      · rw [if_neg h] at hp
        exact .inr ⟨by unfold number; rw [if_pos hfm, if_neg (by omega)], hp⟩
  have HCN := containsNone_any (c :: r)
  have HP' := Lib.hid HP
  have HV := Lib.hid hv
  clear hfm HP h20 hv
  have hcases : c = 48 ∧ r = [] ∨ c ≠ 48 := by
    by_cases hc : c = 48
    · refine .inl ⟨hc, ?_⟩
      rcases r with _ | ⟨d, r⟩
      · rfl
      · exact absurd ⟨hc, by simp⟩ hz
    · exact .inr hc
  clear hz
  rcases hd with ⟨hn, ha⟩ | ⟨ha, ⟨u, hn, hp⟩ | ⟨hn, hp⟩⟩
  · rw [hn]
    rw [ha] at HCN
    have HC := Lib.hid HCN
    clear HCN ha hn hl hlen
    rcases hcases with ⟨rfl, rfl⟩ | hc
    · go_enter Tryz.func78, Tryz.ntmps78
      go_wp2_with (first | (go_at_call 95; refine (HP'.out _).mono ?_; rintro e w' ⟨rfl, rfl⟩) | (go_at_call 96; refine (HC.out _).mono ?_; rintro e w' ⟨rfl, hb⟩))
      go_ret2
      exact ⟨rfl, hb⟩
    · have hc' : (c == 48) = false := by simpa using hc
      go_enter Tryz.func78, Tryz.ntmps78
      go_wp2_with (first | (go_at_call 95; refine (HP'.out _).mono ?_; rintro e w' ⟨rfl, rfl⟩) | (go_at_call 96; refine (HC.out _).mono ?_; rintro e w' ⟨rfl, hb⟩))
      go_ret2
      exact ⟨rfl, hb⟩
  · rw [hn]
    rw [ha] at HCN
    have HC := Lib.hid HCN
    have HU := Lib.hid (fun w => Tryz.strconv_ParseUint_10_at64_ok ⟨(c :: r).toArray⟩ (by simp [ByteArray.size]; omega) u hp w)
    clear HCN ha hn hl hlen hp
    rcases hcases with ⟨rfl, rfl⟩ | hc
    · clear hi
      go_enter Tryz.func78, Tryz.ntmps78
      go_wp2_with (first | (go_at_call 95; refine (HP'.out _).mono ?_; rintro e w' ⟨rfl, rfl⟩) | (go_at_call 96; refine (HC.out _).mono ?_; rintro e w' ⟨rfl, hb⟩))
      refine (HU.out _).mono ?_
      rintro e w2 ⟨rfl, hw⟩
      have hb2 : Below w'.heap.size w' w2 := by
        rcases hw with rfl | rfl
        · exact Below.refl _ _
        · exact Joins.below_bytesWorld _ _ _ _ (Nat.le_refl _)
      have hb3 := hb.trans (hb2.mono hb.size)
      clear hb hb2 hw
      go_wp2_with fail
      go_ret2
      exact ⟨rfl, hb3⟩
    · have hc' : (c == 48) = false := by simpa using hc
      go_enter Tryz.func78, Tryz.ntmps78
      go_wp2_with (first | (go_at_call 95; refine (HP'.out _).mono ?_; rintro e w' ⟨rfl, rfl⟩) | (go_at_call 96; refine (HC.out _).mono ?_; rintro e w' ⟨rfl, hb⟩))
      refine (HU.out _).mono ?_
      rintro e w2 ⟨rfl, hw⟩
      have hb2 : Below w'.heap.size w' w2 := by
        rcases hw with rfl | rfl
        · exact Below.refl _ _
        · exact Joins.below_bytesWorld _ _ _ _ (Nat.le_refl _)
      have hb3 := hb.trans (hb2.mono hb.size)
      clear hb hb2 hw
      go_wp2_with fail
      go_ret2
      exact ⟨rfl, hb3⟩
  · rw [hn]
    rw [ha] at HCN
    have HC := Lib.hid HCN
    have HU := Lib.hid (fun ev w hv hev => Tryz.strconv_ParseUint_10_at64_range ⟨(c :: r).toArray⟩ (by simp [ByteArray.size]; omega) hp ev w hv hev)
    clear HCN ha hn hl hlen hp
    rcases hcases with ⟨rfl, rfl⟩ | hc
    · clear hi
      go_enter Tryz.func78, Tryz.ntmps78
      go_wp2_with (first | (go_at_call 95; refine (HP'.out _).mono ?_; rintro e w' ⟨rfl, rfl⟩) | (go_at_call 96; refine (HC.out _).mono ?_; rintro e w' ⟨rfl, hb⟩))
      obtain ⟨ev, hcell, hev⟩ := (HV.out.below hb).1
      refine (HU.out ev w' hcell hev).mono ?_
      rintro e w2 ⟨N, rfl, _, _, hb2⟩
      have hb3 := hb.trans (hb2.mono hb.size)
      clear hb hb2 hcell hev
      go_wp2_with fail
      go_ret2
      exact ⟨rfl, hb3⟩
    · have hc' : (c == 48) = false := by simpa using hc
      go_enter Tryz.func78, Tryz.ntmps78
      go_wp2_with (first | (go_at_call 95; refine (HP'.out _).mono ?_; rintro e w' ⟨rfl, rfl⟩) | (go_at_call 96; refine (HC.out _).mono ?_; rintro e w' ⟨rfl, hb⟩))
      obtain ⟨ev, hcell, hev⟩ := (HV.out.below hb).1
      refine (HU.out ev w' hcell hev).mono ?_
      rintro e w2 ⟨N, rfl, _, _, hb2⟩
      have hb3 := hb.trans (hb2.mono hb.size)
      clear hb hb2 hcell hev
      go_wp2_with fail
      go_ret2
      exact ⟨rfl, hb3⟩
end Go.Proofs.YtnkhiaikdmpimaaGreatDoor
