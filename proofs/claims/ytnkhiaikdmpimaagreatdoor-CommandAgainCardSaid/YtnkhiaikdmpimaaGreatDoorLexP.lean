/- THE REFERENCE'S Quote. -/
import Derived.Test.YtnkhiaikdmpimaaGreatDoorLexM
import Derived.Test.YtnkhiaikdmpimaaGreatDoorLexI
namespace Go.Proofs.YtnkhiaikdmpimaaGreatDoor
open Go.RowKit Lx

theorem two_bytes (x y : UInt8) (n : Nat) (w : World) : (convert 72 9 (.slice (some ⟨w.heap.size, 0, none⟩) 2 n)).run Tryz.prog (w.alloc (.cells #[.int .u8 x.toNat, .int .u8 y.toNat] 5)) = .ok (.string ⟨[x, y].toArray⟩) (w.alloc (.cells #[.int .u8 x.toNat, .int .u8 y.toNat] 5)) := by
  refine run_convert_bytes_back (P := Tryz.prog) _ 72 9 5 ⟨w.heap.size, 0, none⟩ n [x, y] Tryz.underlying72 Tryz.underlying5 Tryz.underlying9 ?_
  intro j hj
  have hadd : (⟨w.heap.size, 0, none⟩ : Addr).add j = ⟨w.heap.size, j, none⟩ := by unfold Addr.add; split <;> simp_all
  rw [hadd, World.cell?_alloc_mark]
  match j, hj with
  | 0, _ => simp
  | 1, _ => simp

/-- the head's test -/
def headOk (l : List UInt8) : Bool := !l.isEmpty && l.head? != some 35
theorem bareWord_split (l : List UInt8) : bareWord l = (headOk l && l.all bareB) := by
  unfold bareWord headOk
  rw [Bool.and_comm (l.all bareB), Bool.and_assoc, Bool.and_comm (l.all bareB), ← Bool.and_assoc]

theorem hex_hi (c : UInt8) (h : c.toNat / 16 < 16) : ([48, 49, 50, 51, 52, 53, 54, 55, 56, 57, 97, 98, 99, 100, 101, 102] : List UInt8)[c.toNat / 16]'h = hexd (c / 16) := by
  have e := digs_at ⟨c.toNat / 16, h⟩
  have : UInt8.ofNat (c.toNat / 16) = c / 16 := by
    apply UInt8.toNat_inj.1
    rw [UInt8.toNat_ofNat', UInt8.toNat_div]
    have := c.toNat_lt; simp; omega
  rw [this] at e
  exact UInt8.toNat_inj.1 e
theorem hex_lo (c : UInt8) (h : c.toNat % 16 < 16) : ([48, 49, 50, 51, 52, 53, 54, 55, 56, 57, 97, 98, 99, 100, 101, 102] : List UInt8)[c.toNat % 16]'h = hexd (c % 16) := by
  have e := digs_at ⟨c.toNat % 16, h⟩
  have : UInt8.ofNat (c.toNat % 16) = c % 16 := by
    apply UInt8.toNat_inj.1
    rw [UInt8.toNat_ofNat', UInt8.toNat_mod]
    have := c.toNat_lt; simp; omega
  rw [this] at e
  exact UInt8.toNat_inj.1 e
theorem hex_bytes (c : UInt8) (h1 : c.toNat / 16 < 16) (h2 : c.toNat % 16 < 16) (w : World) : (convert 72 9 (.slice (some ⟨w.heap.size, 0, none⟩) 2 2)).run Tryz.prog
    (w.alloc (.cells #[.int .u8 (([48, 49, 50, 51, 52, 53, 54, 55, 56, 57, 97, 98, 99, 100, 101, 102] : List UInt8)[c.toNat / 16]'h1).toNat, .int .u8 (([48, 49, 50, 51, 52, 53, 54, 55, 56, 57, 97, 98, 99, 100, 101, 102] : List UInt8)[c.toNat % 16]'h2).toNat] 5)).drew =
    .ok (.string ⟨[([48, 49, 50, 51, 52, 53, 54, 55, 56, 57, 97, 98, 99, 100, 101, 102] : List UInt8)[c.toNat / 16]'h1, ([48, 49, 50, 51, 52, 53, 54, 55, 56, 57, 97, 98, 99, 100, 101, 102] : List UInt8)[c.toNat % 16]'h2].toArray⟩)
    (w.alloc (.cells #[.int .u8 (([48, 49, 50, 51, 52, 53, 54, 55, 56, 57, 97, 98, 99, 100, 101, 102] : List UInt8)[c.toNat / 16]'h1).toNat, .int .u8 (([48, 49, 50, 51, 52, 53, 54, 55, 56, 57, 97, 98, 99, 100, 101, 102] : List UInt8)[c.toNat % 16]'h2).toNat] 5)).drew :=
  two_bytes _ _ 2 w.drew
theorem slash_byte (w : World) : (convert 72 9 (.slice (some ⟨w.heap.size, 0, none⟩) 1 1)).run Tryz.prog (w.alloc (.cells #[.int .u8 92] 5)) = .ok (.string ⟨[92].toArray⟩) (w.alloc (.cells #[.int .u8 92] 5)) := one_byte 92 1 w

set_option maxHeartbeats 1000000 in
set_option maxRecDepth 100000 in
theorem rquote_nil (w : World) :
    Calls Tryz.prog 18 #[.string ⟨[].toArray⟩] w fun e w' => e = .returned (.string ⟨(quoteB []).toArray⟩) ∧ Below w.heap.size w w' := by
  have ob := slash_byte w
  go_enter Tryz.func18, Tryz.ntmps18
  go_wp2_with fail
  go_rounds 1
  go_wp2_with fail
  go_rounds 1
  go_wp2_with fail
  go_ret
  exact ⟨rfl, (Below.refl _ _).alloc (Nat.le_refl _) _⟩

theorem head_ok (l : List UInt8) (h : 0 < l.length) : (!l.isEmpty && (l[0].toNat : Int) != 35) = headOk l := by
  rcases l with _ | ⟨c, r⟩
  · cases h
  · unfold headOk
    simp only [List.isEmpty_cons, Bool.not_false, Bool.true_and, List.head?_cons, List.getElem_cons_zero]
    rw [Bool.eq_iff_iff]
    simp only [bne_iff_ne, ne_eq, Option.some.injEq]
    rw [← UInt8.toNat_inj]
    constructor
    · intro h e; apply h; have : c.toNat = 35 := e
      omega
    · intro h e; apply h; show c.toNat = 35; omega
theorem all_snoc (l : List UInt8) (k : Nat) (h : k < l.length) : (l.take (k + 1)).all bareB = ((l.take k).all bareB && bareB l[k]) := by
  rw [List.take_succ_eq_append_getElem h, List.all_append]; simp only [List.all_cons, List.all_nil, Bool.and_true]

set_option maxHeartbeats 1000000 in
set_option maxRecDepth 100000 in
theorem rquote_any (l : List UInt8) (hl : l.length ≤ 2000) (w : World) :
    Calls Tryz.prog 18 #[.string ⟨l.toArray⟩] w fun e w' => e = .returned (.string ⟨(quoteB l).toArray⟩) ∧ Below w.heap.size w w' := by
  by_cases hl0 : l = []
  · subst hl0; exact rquote_nil w
  have hpos : 0 < l.length := by cases l with | nil => exact absurd rfl hl0 | cons => simp
  have HH := Lib.hid (head_ok l hpos)
  have HBS := Lib.hid (bareWord_split l)
  go_enter Tryz.func18, Tryz.ntmps18
  go_wp2_with fail
  go_loop [3, 4] (fun p i => ∃ k : Nat, k ≤ l.length ∧ p = .bool (headOk l && (l.take k).all bareB) ∧ i = .int .i64 k) (fun _ i => l.length - (intOf i).toNat)
  case atStart => exact ⟨0, Nat.zero_le _, by rw [← HH.out]; simp, rfl⟩
  case round =>
    obtain ⟨k, hk, rfl, rfl⟩ := hrel
    by_cases hlt : k < l.length
    · have HS := Lib.hid (all_snoc l k hlt)
      have hki : (k : Int) < (l.length : Int) := by omega
      have hrb := Lib.hid (rbare_any l[k])
      generalize hb : (headOk l && (l.take k).all bareB) = b
      have HB := Lib.hid hb
      clear hb
      cases b with
      | false =>
        go_wp2_with fail
        go_round
        case rel => exact ⟨k + 1, hlt, by rw [HS.out, ← Bool.and_assoc, HB.out]; rfl, by go_num⟩
        case measure => simp [intOf]; omega
      | true =>
        go_wp2_with (go_at_call 36; refine (hrb.out _).mono ?_; rintro e w' ⟨rfl, rfl⟩)
        go_round
        case rel => exact ⟨k + 1, hlt, by rw [HS.out, ← Bool.and_assoc, HB.out]; rfl, by go_num⟩
        case measure => simp [intOf]; omega
    · have hki : ¬ (k : Int) < (l.length : Int) := by omega
      have hb : (headOk l && (l.take k).all bareB) = bareWord l := by rw [HBS.out, List.take_of_length_le (by omega)]
      rw [hb]
      cases hbw : bareWord l with
      | true =>
        have hq : quoteB l = l := by unfold quoteB; rw [if_pos hbw]
        have HQ := Lib.hid hq
        clear hb hbw hq
        go_wp2_with fail
        go_ret
        exact ⟨by rw [HQ.out]; rfl, Below.refl _ _⟩
      | false =>
        have hq : quoteB l = esc34 l l.length ++ [34] := by unfold quoteB esc34; rw [if_neg (by rw [hbw]; exact Bool.false_ne_true), List.take_of_length_le (Nat.le_refl _)]; rfl
        have HQ := Lib.hid hq
        have ob := slash_byte w
        clear hb hbw hq
        go_wp2_with fail
        clear ob
        go_loopg [7, 8] l.length (fun g o i wr => ∃ k : Nat, g = l.length - k ∧ k ≤ l.length ∧ o = .string ⟨(esc34 l k).toArray⟩ ∧ i = .int .i64 k ∧ Below w.heap.size w wr)
        case atStart => exact ⟨0, rfl, Nat.zero_le _, rfl, rfl, (Below.refl _ _).alloc (Nat.le_refl _) _⟩
        case round =>
          obtain ⟨k, rfl, hk, rfl, rfl, hbr⟩ := hrel
          have HBr := Lib.hid hbr
          have hsz := hbr.size
          have hlen : (esc34 l k).length ≤ 8001 := by have := esc34_len l k; omega
          clear hbr
          by_cases hlt : k < l.length
          · have hkl : (k : Int) < (l.length : Int) := by omega
            have hs := esc34_succ l k hlt
            generalize hcc : l[k] = c at hs
            have HS := Lib.hid hs
            have HCC := Lib.hid hcc
            clear hs
            by_cases h10 : c = 10
            · subst h10
              go_wp2_with fail
              go_roundg (l.length - (k + 1))
              case measure => omega
              case rel => exact ⟨k + 1, rfl, hlt, by rw [HS.out]; rfl, by go_num, HBr.out⟩
            have g10 : ((c.toNat : Int) == 10) = false := byte_ne (k := 10) h10
            by_cases h92 : c = 92 ∨ c = 34
            · have he : escByte c = [92, c] := by unfold escByte; rw [if_neg h10, if_pos h92]
              have HE := Lib.hid he
              have ob := one_byte c 1 wr
              have hc : ((c.toNat : Int) == 92) = true ∨ ((c.toNat : Int) == 92) = false ∧ ((c.toNat : Int) == 34) = true := by
                rcases h92 with rfl | rfl
                · exact .inl rfl
                · exact .inr ⟨rfl, rfl⟩
              clear he h10 h92
              rcases hc with hc | ⟨hc, hc2⟩
              all_goals
                go_wp2_with fail
                go_roundg (l.length - (k + 1))
                case measure => omega
                case rel => exact ⟨k + 1, rfl, hlt, by rw [HS.out, HE.out], by go_num, HBr.out.alloc hsz _⟩
            have g92 : ((c.toNat : Int) == 92) = false := byte_ne (k := 92) (fun e => h92 (.inl e))
            have g34 : ((c.toNat : Int) == 34) = false := byte_ne (k := 34) (fun e => h92 (.inr e))
            by_cases hpr : 32 ≤ c ∧ c ≤ 126
            · have he : escByte c = [c] := by unfold escByte; rw [if_neg h10, if_neg h92, if_pos hpr]
              have HE := Lib.hid he
              have ob := one_byte c 1 wr
              have hp1 : (32 : Int) ≤ (c.toNat : Int) := by have := UInt8.le_iff_toNat_le.1 hpr.1; simp at this; omega
              have hp2 : (c.toNat : Int) ≤ 126 := by have := UInt8.le_iff_toNat_le.1 hpr.2; simp at this; omega
              clear he h10 h92 hpr
              go_wp2_with fail
              go_roundg (l.length - (k + 1))
              case measure => omega
              case rel => exact ⟨k + 1, rfl, hlt, by rw [HS.out, HE.out], by go_num, HBr.out.alloc hsz _⟩
            have he : escByte c = [92, 120, hexd (c / 16), hexd (c % 16)] := by unfold escByte; rw [if_neg h10, if_neg h92, if_neg hpr]
            have HE := Lib.hid he
            have hpr' : (c.toNat : Int) < 32 ∨ 32 ≤ (c.toNat : Int) ∧ 126 < (c.toNat : Int) := by
              rw [UInt8.le_iff_toNat_le, UInt8.le_iff_toNat_le] at hpr; simp at hpr; omega
            have hd1 := div_lt c
            have hd2 := mod_lt c
            have hn1 : c.toNat / 16 < 16 := by have := c.toNat_lt; omega
            have hn2 : c.toNat % 16 < 16 := by omega
            have ob := hex_bytes c hn1 hn2 wr
            have hx1 : [48, 49, 50, 51, 52, 53, 54, 55, 56, 57, 97, 98, 99, 100, 101, 102][c.toNat / 16] = hexd (c / 16) := hex_hi c hn1
            have hx2 : [48, 49, 50, 51, 52, 53, 54, 55, 56, 57, 97, 98, 99, 100, 101, 102][c.toNat % 16] = hexd (c % 16) := hex_lo c hn2
            have HX1 := Lib.hid hx1
            have HX2 := Lib.hid hx2
            clear he h10 h92 hpr hx1 hx2
            rcases hpr' with hp1 | ⟨hp1, hp2⟩
            all_goals
              go_wp2_with fail
              go_region
              all_goals
                go_wp2_with fail
                go_roundg (l.length - (k + 1))
                case measure => omega
                case rel => exact ⟨k + 1, rfl, hlt, by rw [HS.out, HE.out, HX1.out, HX2.out], by go_num, by first | exact (HBr.out.alloc hsz _).drew | exact HBr.out.drew.alloc hsz _ | exact HBr.out.alloc hsz _⟩
          · have hkl : ¬ (k : Int) < (l.length : Int) := by omega
            obtain rfl : k = l.length := by omega
            go_wp2_with fail
            go_ret
            exact ⟨by rw [HQ.out]; rfl, HBr.out⟩
end Go.Proofs.YtnkhiaikdmpimaaGreatDoor
