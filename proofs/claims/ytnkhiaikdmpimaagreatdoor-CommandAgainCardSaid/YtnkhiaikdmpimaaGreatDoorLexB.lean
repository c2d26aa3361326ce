/- lex.code, lex.escape, lex.hasRune AND THE REFERENCE'S escape. -/
import Derived.Test.YtnkhiaikdmpimaaGreatDoorLexA
import Derived.Test.YtnkhiaikdmpimaaGreatDoorShelf
namespace Go.Proofs.YtnkhiaikdmpimaaGreatDoor
open Go.RowKit Lx

theorem byte_ne {c k : UInt8} (h : c ≠ k) : ((c.toNat : Int) == (k.toNat : Int)) = false := by
  rw [beq_eq_false_iff_ne]; intro e; exact h (UInt8.toNat_inj.1 (by omega))

def hexDigits : List UInt8 := [48, 49, 50, 51, 52, 53, 54, 55, 56, 57, 97, 98, 99, 100, 101, 102]
theorem index_hex (c : UInt8) : Lib.indexByte hexDigits c = hexi c := by
  have : ∀ c : Fin 256, Lib.indexByte hexDigits (UInt8.ofNat c.val) = hexi (UInt8.ofNat c.val) := by decide +kernel
  have g := this ⟨c.toNat, c.toNat_lt⟩
  simpa only [UInt8.ofNat_toNat] using g
theorem toNat_u8 (c : UInt8) : ((c.toNat : Int)).toNat.toUInt8 = c := by simp
theorem indexHex_any (c : UInt8) (w : World) :
    Calls Tryz.prog 90 #[.string ⟨#[48, 49, 50, 51, 52, 53, 54, 55, 56, 57, 97, 98, 99, 100, 101, 102]⟩, .int .u8 c.toNat] w fun e w' => e = .returned (.int .i64 (hexi c)) ∧ w' = w := by
  have h := Tryz.strings_IndexByte ⟨#[48, 49, 50, 51, 52, 53, 54, 55, 56, 57, 97, 98, 99, 100, 101, 102]⟩ c.toNat w
  rw [toNat_u8] at h
  have e : Lib.indexByte (⟨#[48, 49, 50, 51, 52, 53, 54, 55, 56, 57, 97, 98, 99, 100, 101, 102]⟩ : ByteArray).data.toList c = hexi c := index_hex c
  rw [e] at h
  exact h

/-- what code makes of two numbers of digits -/
def codeX (i j : Int) : Int := bits BinOp.or IntKind.i64 (wrap64 (i * 16)) (bits BinOp.and IntKind.i64 j 15) % 256
theorem codeX_ok {a b x y : UInt8} (ha : hexv a = some x) (hb : hexv b = some y) : codeX (hexi a) (hexi b) = ((16 * x + y).toNat : Int) := by
  have h1 : ∀ i j : Fin 16, codeX (i.val : Int) (j.val : Int) = ((16 * UInt8.ofNat i.val + UInt8.ofNat j.val).toNat : Int) := by decide +kernel
  have hx : ∀ c : Fin 256, ∀ x, hexv (UInt8.ofNat c.val) = some x → x.toNat < 16 := by
    have : ∀ c : Fin 256, (match hexv (UInt8.ofNat c.val) with | some x => decide (x.toNat < 16) | none => true) = true := by decide +kernel
    intro c x h
    have g := this c
    rw [h] at g
    simpa using g
  have gx := hx ⟨a.toNat, a.toNat_lt⟩ x (by simpa using ha)
  have gy := hx ⟨b.toNat, b.toNat_lt⟩ y (by simpa using hb)
  have g := h1 ⟨x.toNat, gx⟩ ⟨y.toNat, gy⟩
  simp only [UInt8.ofNat_toNat] at g
  unfold hexi
  rw [ha, hb]
  exact g
theorem hexi_some {c x : UInt8} (h : hexv c = some x) : 0 ≤ hexi c := by unfold hexi; rw [h]; simp
theorem hexi_none {c : UInt8} (h : hexv c = none) : hexi c < 0 := by unfold hexi; rw [h]; decide

set_option maxHeartbeats 400000 in
theorem code_two (a b : UInt8) (r : List UInt8) (hr : r.length ≤ 2000) (w : World) :
    Calls Tryz.prog 75 #[.string ⟨(a :: b :: r).toArray⟩] w fun e w' => e = .returned (.tuple #[.int .u8 (codeX (hexi a) (hexi b)), .bool (decide (0 ≤ hexi a) && decide (0 ≤ hexi b))]) ∧ ∃ n, w' = w.drewN n := by
  go_enter Tryz.func75, Tryz.ntmps75
  go_wp2_with fail
  go_quiet ((go_at_call 90; exact Calls.quiet_of_same (indexHex_any _ _)))
  go_wp2
  all_goals go_ret2
  all_goals exact ⟨ret_two rfl (congrArg Value.bool (by simp; try omega)), _, rfl⟩
set_option maxHeartbeats 400000 in
theorem code_less (l : List UInt8) (hl : l.length < 2) (w : World) :
    Calls Tryz.prog 75 #[.string ⟨l.toArray⟩] w fun e w' => e = .returned (.tuple #[.int .u8 0, .bool false]) ∧ ∃ n, w' = w.drewN n := by
  go_enter Tryz.func75, Tryz.ntmps75
  go_wp2_with fail
  go_ret2
  exact ⟨rfl, 0, rfl⟩
theorem code_some (l : List UInt8) (x : UInt8) (h : codeB l = some x) (hl : l.length ≤ 2002) (w : World) :
    Calls Tryz.prog 75 #[.string ⟨l.toArray⟩] w fun e w' => e = .returned (.tuple #[.int .u8 x.toNat, .bool true]) ∧ ∃ n, w' = w.drewN n := by
  match l, h with
  | [], h => simp [codeB] at h
  | [_], h => simp [codeB] at h
  | a :: b :: r, h =>
    simp only [codeB] at h
    split at h
    · rename_i y z hy hz
      simp only [Option.some.injEq] at h
      subst h
      simp only [List.length_cons] at hl
      refine (code_two a b r (by omega) w).mono fun e w' ⟨he, hw⟩ => ⟨?_, hw⟩
      rw [he, codeX_ok hy hz]
      simp [hexi_some hy, hexi_some hz]
    · cases h
theorem code_none (l : List UInt8) (h : codeB l = none) (hl : l.length ≤ 2002) (w : World) :
    Calls Tryz.prog 75 #[.string ⟨l.toArray⟩] w fun e w' => (∃ y, e = .returned (.tuple #[.int .u8 y, .bool false])) ∧ ∃ n, w' = w.drewN n := by
  match l, h with
  | [], h => exact (code_less [] (by simp) w).mono fun e w' ⟨he, hw⟩ => ⟨⟨_, he⟩, hw⟩
  | [a], h => exact (code_less [a] (by simp) w).mono fun e w' ⟨he, hw⟩ => ⟨⟨_, he⟩, hw⟩
  | a :: b :: r, h =>
    simp only [codeB] at h
    simp only [List.length_cons] at hl
    refine (code_two a b r (by omega) w).mono fun e w' ⟨he, hw⟩ => ⟨⟨codeX (hexi a) (hexi b), ?_⟩, hw⟩
    · rw [he]
      split at h
      · cases h
      · rename_i hn
        cases ha : hexv a with
        | none => simp [Int.not_le.2 (hexi_none ha)]
        | some x =>
          cases hb : hexv b with
          | none => simp [Int.not_le.2 (hexi_none hb)]
          | some y => exact absurd hb (hn x y ha)

/-! escape -/
def escX (l : List UInt8) : Int := match escB l with | some (x, _) => x.toNat | none => 0
def escN (l : List UInt8) : Int := match escB l with | some (_, n) => n | none => 0
set_option maxHeartbeats 400000 in
theorem escape_any (l : List UInt8) (hl : l.length ≤ 2000) (w : World) :
    Calls Tryz.prog 59 #[.string ⟨l.toArray⟩] w fun e w' => e = .returned (.tuple #[.int .u8 (escX l), .int .i64 (escN l)]) ∧ ∃ n, w' = w.drewN n := by
  match l, hl with
  | [], _ =>
    go_enter Tryz.func59, Tryz.ntmps59
    go_wp2
    go_ret2
    exact ⟨rfl, 0, rfl⟩
  | c :: r, hl =>
    simp only [List.length_cons] at hl
    by_cases h1 : c = 110
    · subst h1
      go_enter Tryz.func59, Tryz.ntmps59
      go_wp2
      go_ret2
      exact ⟨rfl, 0, rfl⟩
    have f1 : ((c.toNat : Int) == 110) = false := byte_ne (k := 110) h1
    by_cases h2 : c = 92
    · subst h2
      go_enter Tryz.func59, Tryz.ntmps59
      go_wp2
      go_ret2
      exact ⟨rfl, 0, rfl⟩
    have f2 : ((c.toNat : Int) == 92) = false := byte_ne (k := 92) h2
    by_cases h3 : c = 34
    · subst h3
      go_enter Tryz.func59, Tryz.ntmps59
      go_wp2
      go_ret2
      exact ⟨rfl, 0, rfl⟩
    have f3 : ((c.toNat : Int) == 34) = false := byte_ne (k := 34) h3
    by_cases h4 : c = 120
    · subst h4
      clear h1 h2 h3 f1 f2 f3
      cases hc : codeB r with
      | some x =>
        have e : escX (120 :: r) = x.toNat ∧ escN (120 :: r) = 3 := by simp [escX, escN, escB, hc]
        rw [e.1, e.2]
        have H := Lib.hid hc
        clear hc e
        go_enter Tryz.func59, Tryz.ntmps59
        go_wp2_with fail
        refine (code_some _ _ H.out (by omega) _).mono ?_
        rintro e w' ⟨rfl, n, rfl⟩
        go_wp2
        go_ret2
        exact ⟨rfl, n, rfl⟩
      | none =>
        have e : escX (120 :: r) = 0 ∧ escN (120 :: r) = 0 := by simp [escX, escN, escB, hc]
        rw [e.1, e.2]
        have H := Lib.hid hc
        clear hc e
        go_enter Tryz.func59, Tryz.ntmps59
        go_wp2_with fail
        refine (code_none _ H.out (by omega) _).mono ?_
        rintro e w' ⟨⟨y, rfl⟩, n, rfl⟩
        go_wp2
        go_ret2
        exact ⟨rfl, n, rfl⟩
    have f4 : ((c.toNat : Int) == 120) = false := byte_ne (k := 120) h4
    have e : escX (c :: r) = 0 ∧ escN (c :: r) = 0 := by simp [escX, escN, escB, h1, h2, h3, h4]
    rw [e.1, e.2]
    clear e
    go_enter Tryz.func59, Tryz.ntmps59
    go_wp2
    go_ret2
    exact ⟨rfl, 0, rfl⟩

/-! the reference's escape -/
theorem hexi_eq {c x : UInt8} (h : hexv c = some x) : hexi c = x.toNat := by unfold hexi; rw [h]
theorem hexv_lt {c x : UInt8} (h : hexv c = some x) : x.toNat < 16 := by
  have := (hexi_bd c).2; rw [hexi_eq h] at this; omega
end Go.Proofs.YtnkhiaikdmpimaaGreatDoor
