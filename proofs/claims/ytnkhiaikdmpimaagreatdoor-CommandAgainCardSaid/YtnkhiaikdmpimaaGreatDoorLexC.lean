/- lex.hasRune AT ITS CONSTANT, strings.IndexRune AND strings.IndexAny AT " \t" FOR WHATEVER BYTES. -/
import Derived.Test.YtnkhiaikdmpimaaGreatDoorLexB
import Derived.Laws.RangeAny
import Derived.Deep.LoopGhost
import Derived.Handy
import Derived.Lib.OthersKept
namespace Go.Proofs.YtnkhiaikdmpimaaGreatDoor
open Go.RowKit Lx

theorem below_iter (w : World) (s : ByteArray) (n : Nat) : Below w.heap.size w (w.iter s n) := (Below.refl _ _).alloc (Nat.le_refl _) _
theorem byte_ne' {k c : UInt8} (h : c ≠ k) : ((k.toNat : Int) == (c.toNat : Int)) = false := byte_ne (Ne.symm h)

def isStop (c : UInt8) : Bool := blankB c || c == 35
set_option maxHeartbeats 800000 in
theorem hasRune_any (c : UInt8) (w : World) :
    Calls Tryz.prog 58 #[.string ⟨#[32, 9, 35]⟩, .int .i32 c.toNat] w fun e w' => e = .returned (.bool (isStop c)) ∧ Below w.heap.size w w' := by
  have n0 := fun ty => run_next_ascii (P := Tryz.prog) w ⟨#[32, 9, 35]⟩ 0 ty (by decide) (by decide)
  have n1 := fun ty => run_next_ascii (P := Tryz.prog) w ⟨#[32, 9, 35]⟩ 1 ty (by decide) (by decide)
  have n2 := fun ty => run_next_ascii (P := Tryz.prog) w ⟨#[32, 9, 35]⟩ 2 ty (by decide) (by decide)
  have n3 := fun ty => run_next_end (P := Tryz.prog) w ⟨#[32, 9, 35]⟩ 3 ty (by decide)
  by_cases h0 : c = 32
  · subst h0
    go_enter Tryz.func58, Tryz.ntmps58
    go_wp2
    go_rounds 4
    go_ret
    exact ⟨rfl, below_iter _ _ _⟩
  have f0 : ((32 : Int) == (c.toNat : Int)) = false := byte_ne' (k := 32) h0
  by_cases h1 : c = 9
  · subst h1
    go_enter Tryz.func58, Tryz.ntmps58
    go_wp2
    go_rounds 4
    go_ret
    exact ⟨rfl, below_iter _ _ _⟩
  have f1 : ((9 : Int) == (c.toNat : Int)) = false := byte_ne' (k := 9) h1
  by_cases h2 : c = 35
  · subst h2
    go_enter Tryz.func58, Tryz.ntmps58
    go_wp2
    go_rounds 4
    go_ret
    exact ⟨rfl, below_iter _ _ _⟩
  have f2 : ((35 : Int) == (c.toNat : Int)) = false := byte_ne' (k := 35) h2
  have e : isStop c = false := by simp [isStop, blankB, h0, h1, h2]
  rw [e]
  clear e h0 h1 h2
  go_enter Tryz.func58, Tryz.ntmps58
  go_wp2
  go_rounds 4
  go_ret
  exact ⟨rfl, below_iter _ _ _⟩

/-! strings.IndexRune(" \t", r) of a rune beyond ASCII -/
theorem encode_high (r : Int) (h : 128 ≤ r) : (∃ x y, Utf8.encode r = ⟨#[x, y]⟩ ∧ 128 ≤ y.toNat) ∨ (∃ x y z, Utf8.encode r = ⟨#[x, y, z]⟩) ∨ ∃ x y z u, Utf8.encode r = ⟨#[x, y, z, u]⟩ := by
  unfold Utf8.encode
  simp only
  generalize hc : (if Utf8.valid r = true then r.toNat else Utf8.runeError) = c
  have hc128 : 128 ≤ c := by
    rw [← hc]; split
    · omega
    · decide
  rw [if_neg (by omega)]
  by_cases h1 : c < 0x800
  · rw [if_pos h1]
    refine .inl ⟨_, _, rfl, ?_⟩
    rw [UInt8.toNat_ofNat']
    have := Nat.mod_lt c (show 0 < 64 by decide)
    rw [Nat.mod_eq_of_lt (by omega)]; omega
  · rw [if_neg h1]
    split
    · exact .inr (.inl ⟨_, _, _, rfl⟩)
    · exact .inr (.inr ⟨_, _, _, _, rfl⟩)
theorem indexByte_nil (c : Int) (w : World) :
    Calls Tryz.prog 90 #[.string ⟨#[]⟩, .int .u8 c] w fun e w' => e = .returned (.int .i64 (-1)) ∧ w' = w := Tryz.strings_IndexByte ⟨#[]⟩ c w
set_option maxHeartbeats 1000000 in
set_option maxRecDepth 100000 in
theorem indexRune_high (r : Int) (h0 : 128 ≤ r) (h1 : r ≤ 2147483647) (w : World) :
    Calls Tryz.prog 76 #[.string ⟨#[32, 9]⟩, .int .i32 r] w fun e w' => e = .returned (.int .i64 (-1)) ∧ Below w.heap.size w w' := by
  have n0 := fun ty => run_next_ascii (P := Tryz.prog) w ⟨#[32, 9]⟩ 0 ty (by decide) (by decide)
  have n1 := fun ty => run_next_ascii (P := Tryz.prog) w ⟨#[32, 9]⟩ 1 ty (by decide) (by decide)
  have n2 := fun ty => run_next_end (P := Tryz.prog) w ⟨#[32, 9]⟩ 2 ty (by decide)
  by_cases he : r = 65533
  · subst he
    go_enter Tryz.func76, Tryz.ntmps76
    go_wp2
    go_rounds 3
    go_ret
    exact ⟨rfl, below_iter _ _ _⟩
  have hr : ((r : Int) == 65533) = false := by rw [beq_eq_false_iff_ne]; exact he
  cases hv : Lib.validRune r with
  | false =>
    have H := Tryz.utf8_ValidRune r
    rw [hv] at H
    have H' := Lib.hid H
    clear H hv
    go_enter Tryz.func76, Tryz.ntmps76
    go_wp2_with (go_at_call 91; refine (H'.out _).mono ?_; rintro e w' ⟨rfl, rfl⟩)
    go_ret
    exact ⟨rfl, Below.refl _ _⟩
  | true =>
    have H := Tryz.utf8_ValidRune r
    rw [hv] at H
    have H' := Lib.hid H
    clear H hv
    rcases encode_high r h0 with ⟨x, y, hx, hy⟩ | ⟨x, y, z, hx⟩ | ⟨x, y, z, u, hx⟩
    · have hn : ((9 : Int) != (y.toNat : Int)) = true := by rw [bne_iff_ne]; omega
      go_enter Tryz.func76, Tryz.ntmps76
      go_wp2_with (go_at_call 91; refine (H'.out _).mono ?_; rintro e w' ⟨rfl, rfl⟩)
      go_step3
      go_wp2
      go_rounds 1
      go_step3
      go_wp2
      go_quiet (fail)
      go_wp2
      go_quiet ((go_at_call 90; exact qright_add (indexByte_nil _ _)))
      go_wp2
      rw [Exit.noGoto_ret]
      go_wp2
      rw [Exit.noGoto_ret]
      go_ret
      exact ⟨rfl, bdrew (Below.refl _ _) _⟩
    · go_enter Tryz.func76, Tryz.ntmps76
      go_wp2_with (go_at_call 91; refine (H'.out _).mono ?_; rintro e w' ⟨rfl, rfl⟩)
      go_step3
      go_wp2
      go_rounds 1
      rw [Exit.noGoto_ret]
      go_ret
      exact ⟨rfl, Below.refl _ _⟩
    · go_enter Tryz.func76, Tryz.ntmps76
      go_wp2_with (go_at_call 91; refine (H'.out _).mono ?_; rintro e w' ⟨rfl, rfl⟩)
      go_step3
      go_wp2
      go_rounds 1
      rw [Exit.noGoto_ret]
      go_ret
      exact ⟨rfl, Below.refl _ _⟩

/-! strings.IndexAny(s, " \t"), s of whatever bytes -/
theorem decode_skip (s : ByteArray) (i : Nat) (h : i < s.size) (ha : 128 ≤ (s[i]'h).toNat) :
    i + (Utf8.decode s i).2 ≤ s.size ∧ ∀ j, i ≤ j → j < i + (Utf8.decode s i).2 → ∀ x, s.data.toList[j]? = some x → 128 ≤ x.toNat := by
  have h0 : (s.get! (i + 0)) = s[i]'h := get_at s i h
  have hg : ∀ k, i + k < s.size → ∀ x, s.data.toList[i + k]? = some x → (s.get! (i + k)).toNat / 64 = 2 → 128 ≤ x.toNat := by
    intro k hk x hx he
    have : s.get! (i + k) = x := by
      have h1 := Lib.data_getElem? s (i + k) hk
      rw [h1] at hx
      have h2 := get_at s (i + k) hk
      simp only [Nat.add_zero] at h2
      rw [h2]; exact Option.some.inj hx
    rw [this] at he; omega
  have hf : ∀ x, s.data.toList[i]? = some x → 128 ≤ x.toNat := by
    intro x hx
    have h1 := Lib.data_getElem? s i h
    rw [h1] at hx
    rw [← Option.some.inj hx]; exact ha
  have one : i + 1 ≤ s.size ∧ ∀ j, i ≤ j → j < i + 1 → ∀ x, s.data.toList[j]? = some x → 128 ≤ x.toNat := by
    refine ⟨by omega, fun j h1 h2 x hx => ?_⟩
    obtain rfl : j = i := by omega
    exact hf x hx
  have hn : ¬ (s.get! (i + 0)).toNat < 128 := by rw [h0]; omega
  simp only [Utf8.decode, hn, if_false]
  split
  · rename_i hc
    simp only [Bool.and_eq_true, decide_eq_true_eq, beq_iff_eq] at hc
    split
    · refine ⟨by omega, fun j h1 h2 x hx => ?_⟩
      rcases (show j = i ∨ j = i + 1 by omega) with rfl | rfl
      · exact hf x hx
      · exact hg 1 (by omega) x hx hc.2.2
    · exact one
  · split
    · rename_i hc
      simp only [Bool.and_eq_true, decide_eq_true_eq, beq_iff_eq] at hc
      split
      · refine ⟨by omega, fun j h1 h2 x hx => ?_⟩
        rcases (show j = i ∨ j = i + 1 ∨ j = i + 2 by omega) with rfl | rfl | rfl
        · exact hf x hx
        · exact hg 1 (by omega) x hx hc.1.2.2
        · exact hg 2 (by omega) x hx hc.2.2
      · exact one
    · split
      · rename_i hc
        simp only [Bool.and_eq_true, decide_eq_true_eq, beq_iff_eq] at hc
        split
        · refine ⟨by omega, fun j h1 h2 x hx => ?_⟩
          rcases (show j = i ∨ j = i + 1 ∨ j = i + 2 ∨ j = i + 3 by omega) with rfl | rfl | rfl | rfl
          · exact hf x hx
          · exact hg 1 (by omega) x hx hc.1.1.2.2
          · exact hg 2 (by omega) x hx hc.1.2.2
          · exact hg 3 (by omega) x hx hc.2.2
        · exact one
      · exact one

def tabs : List UInt8 := [32, 9]
theorem tabs_high {x : UInt8} (h : 128 ≤ x.toNat) : tabs.contains x = false := by
  have : ∀ c : Fin 256, 128 ≤ c.val → tabs.contains (UInt8.ofNat c.val) = false := by decide +kernel
  have g := this ⟨x.toNat, x.toNat_lt⟩ h
  simpa only [UInt8.ofNat_toNat] using g
theorem indexRune_low (x : UInt8) (h : x.toNat < 128) (w : World) :
    Calls Tryz.prog 76 #[.string ⟨#[32, 9]⟩, .int .i32 x.toNat] w fun e w' => e = .returned (.int .i64 (Lib.indexByte tabs x)) ∧ w' = w := by
  have g := Tryz.strings_IndexRune_ascii ⟨#[32, 9]⟩ x.toNat w (by omega) (by omega)
  rw [toNat_u8] at g
  exact g

/-- block b is an iterator over s at place p; else, from block B on, nothing is known -/
def Iter (w : World) (b : Nat) (s : ByteArray) (p : Nat) : Prop := w.heap[b]? = some (.stringIter s p)
theorem noAny_jump {l : List UInt8} {i k : Nat} (h : Lib.NoAny l tabs i) (hk : ∀ j, i ≤ j → j < i + k → ∀ x, l[j]? = some x → 128 ≤ x.toNat) : Lib.NoAny l tabs (i + k) := by
  intro j x hj hx
  by_cases e : j < i
  · exact h j x e hx
  · exact tabs_high (hk j (by omega) hj x hx)
set_option maxHeartbeats 1000000 in
theorem indexAny_short (s : ByteArray) (h8 : s.size ≤ 8) (w : World) :
    Calls Tryz.prog 60 #[.string s, .string ⟨#[32, 9]⟩] w fun e w' => e = .returned (.int .i64 (Lib.indexAny s.data.toList tabs)) ∧ Below w.heap.size w w' := by
  have h8z : decide ((8 : Int) < (s.size : Int)) = false := decide_eq_false (by omega)
  go_enter Tryz.func60, Tryz.ntmps60
  go_wp2_with (go_at_call 77; refine (Tryz.strings_shouldUseASCIISet _ _).mono ?_; rintro e w' ⟨rfl, hw⟩; rw [hw, h8z])
  go_loopg [9, 10] s.size (fun g _ _ wx => ∃ i : Nat, i + g = s.size ∧ Iter wx w.heap.size s i ∧ Below w.heap.size w wx ∧ Lib.NoAny s.data.toList tabs i)
  case atStart => exact ⟨0, by omega, World.iter_heap _ _ _, below_iter _ _ _, Lib.NoAny.zero _ _⟩
  case round =>
    obtain ⟨i, hig, hit, hbel, hno⟩ := hrel
    have HN := Lib.hid hno
    have HI := Lib.hid hit
    have HB := Lib.hid hbel
    clear hno hit hbel
    cases gk with
    | zero =>
      obtain rfl : i = s.size := by omega
      have hnx := fun ty => Lib.run_next_end_at (P := Tryz.prog) wr w.heap.size s s.size ty HI.out (by omega)
      go_wp2
      go_ret
      exact ⟨by rw [Lib.indexAny_none (by rw [← Lib.size_eq]; exact HN.out)]; rfl, HB.out⟩
    | succ g =>
      have hi : i < s.size := by omega
      obtain ⟨x, hx⟩ : ∃ x : UInt8, s[i]'hi = x := ⟨_, rfl⟩
      have hxl : s.data.toList[i]? = some x := by rw [← hx]; exact Lib.data_getElem? s i hi
      have HX := Lib.hid hxl
      clear hxl
      by_cases hx128 : x.toNat < 128
      · have hnx := fun ty => Lib.run_next_ascii_at (P := Tryz.prog) wr w.heap.size s i ty HI.out hi (by rw [hx]; exact hx128)
        rw [hx] at hnx
        clear hx
        have hcon := Lib.contains_iff_indexByte tabs x
        cases hin : tabs.contains x
        · rw [hin] at hcon
          have hlt : Lib.indexByte tabs x < 0 := by have := of_decide_eq_false hcon.symm; omega
          have HC := Lib.hid hin
          clear hcon hin
          go_wp2_with (go_at_call 76; refine (indexRune_low _ hx128 _).mono ?_; rintro e w' ⟨rfl, rfl⟩)
          go_roundg g
          case measure => omega
          case rel => exact ⟨i + 1, by omega, Lib.iterAt_heap _ _ _ _ _ HI.out, Lib.below_iterAt HB.out (Nat.le_refl _) _ _, HN.out.succ HX.out HC.out⟩
        · rw [hin] at hcon
          have hge : (0 : Int) ≤ Lib.indexByte tabs x := of_decide_eq_true hcon.symm
          have HC := Lib.hid hin
          clear hcon hin
          go_wp2_with (go_at_call 76; refine (indexRune_low _ hx128 _).mono ?_; rintro e w' ⟨rfl, rfl⟩)
          go_ret
          exact ⟨by rw [Lib.indexAny_hit HN.out HX.out HC.out]; rfl, Lib.below_iterAt HB.out (Nat.le_refl _) _ _⟩
      · have hhi : 128 ≤ (s[i]'hi).toNat := by rw [hx]; omega
        have hnx := fun ty => Lib.run_next_any_at (P := Tryz.prog) wr w.heap.size s i ty HI.out hi
        obtain ⟨hs1, hs2⟩ := decode_skip s i hi hhi
        obtain ⟨hd1, hd2⟩ := decode_high s i hi hhi
        have hd3 := decode_le s i
        have HS := Lib.hid hs2
        clear hs2 hx hhi
        generalize (Utf8.decode s i).1 = r at *
        generalize hk : (Utf8.decode s i).2 = k at *
        have HK := Lib.hid hk
        clear hk
        go_wp2_with (go_at_call 76; refine (indexRune_high _ (by omega) (by omega) _).mono ?_; rintro e w' ⟨rfl, hb⟩)
        have hz : (wr.iterAt w.heap.size s (i + k)).heap.size = wr.heap.size := Lib.iterAt_size _ _ _ _
        have hlt : w.heap.size < wr.heap.size := (Array.getElem?_eq_some_iff.1 HI.out).1
        obtain ⟨g', hg'⟩ : ∃ g', i + k + g' = s.size := ⟨s.size - (i + k), by omega⟩
        go_roundg g'
        case measure => omega
        case rel =>
          refine ⟨i + k, hg', ?_, ?_, noAny_jump HN.out HS.out⟩
          · exact (hb.block _ (by rw [hz]; exact hlt)).trans (Lib.iterAt_heap _ _ _ _ _ HI.out)
          · exact (Lib.below_iterAt HB.out (Nat.le_refl _) _ _).trans (hb.mono (by rw [hz]; omega))

theorem infoSet : (Tryz.prog.info? 102).map (fun i => (i.zero, i.size)) = some (some (.agg (Array.replicate 256 (.bool false))), 256) := by kernel_rfl
theorem indexAny_any (s : ByteArray) (hs : s.size < 4294967281) (w : World) :
    Calls Tryz.prog 60 #[.string s, .string ⟨#[32, 9]⟩] w fun e w' => e = .returned (.int .i64 (Lib.indexAny s.data.toList tabs)) ∧ Below w.heap.size w w' := by
  by_cases h8 : s.size ≤ 8
  · exact indexAny_short s h8 w
  · refine (Tryz.strings_IndexAny_long (zero_of_info infoSet).1 s ⟨#[32, 9]⟩ w (by decide) (by omega) hs (by decide) ?_).mono fun e w' ⟨he, hw⟩ => ⟨he, ?_⟩
    · intro j b hb
      match j, hb with
      | 0, hb => simp at hb; subst hb; decide
      | 1, hb => simp at hb; subst hb; decide
      | j + 2, hb => simp at hb
    · subst hw
      exact ((Below.refl _ _).alloc (Nat.le_refl _) _).alloc (by simp) _
end Go.Proofs.YtnkhiaikdmpimaaGreatDoor
