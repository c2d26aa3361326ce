/- lex.Quote. -/
import Derived.Test.YtnkhiaikdmpimaaGreatDoorLexL
namespace Go.Proofs.YtnkhiaikdmpimaaGreatDoor
open Go.RowKit Lx

theorem bcells_append (a b : List UInt8) : bcells (a ++ b) = bcells a ++ bcells b := by unfold bcells; rw [List.map_append]
theorem bcells_length (a : List UInt8) : (bcells a).length = a.length := by unfold bcells; rw [List.length_map]
theorem bcells_eq (a : List UInt8) : bcells a = Lib.byteCells a := rfl
theorem bld_new (B : Nat) (w : World) (hB : B ≤ w.heap.size) : IsBld (w.alloc (.cells #[.pointer none, .slice none 0 0] 74)) B w.heap.size (fun _ _ => False) [] :=
  .inl ⟨hB, by simp; omega, .slice none 0 0, heap_alloc_new _ _, ⟨rfl, .inl ⟨rfl, rfl⟩⟩, by simp [Value.ownBlock], fun _ _ h => h.elim⟩
/-- '[]byte(s)': a new block, whole -/
theorem bytes_of' (l : List UInt8) (w : World) : ∃ cap x W1, (convert 9 72 (.string ⟨l.toArray⟩)).run Tryz.prog w = .ok (.slice (some ⟨w.heap.size, 0, none⟩) l.length cap) W1 ∧
    W1.heap[w.heap.size]? = some x ∧ (∀ (wr : World), wr.heap[w.heap.size]? = some x → ∀ (i : Nat) (h : i < l.length), wr.cell? ⟨w.heap.size, i, none⟩ = some (.int .u8 l[i].toNat)) ∧ Below w.heap.size w W1 := by
  obtain ⟨cap, W1, h1, h2, h3, h4, _⟩ := bytes_of l w
  obtain ⟨x, hx⟩ : ∃ x, W1.heap[w.heap.size]? = some x := ⟨_, Array.getElem?_eq_getElem (by omega)⟩
  refine ⟨cap, x, W1, h1, hx, ?_, h3⟩
  intro wr hr i hi
  rw [← h2 i hi]
  exact World.cell?_of_block (hr.trans hx.symm)

def esc34 (l : List UInt8) (k : Nat) : List UInt8 := 34 :: (l.take k).flatMap escByte
theorem esc34_succ (l : List UInt8) (k : Nat) (h : k < l.length) : esc34 l (k + 1) = esc34 l k ++ escByte l[k] := by
  unfold esc34
  rw [List.take_succ_eq_append_getElem h, List.flatMap_append]; simp
theorem esc34_len (l : List UInt8) (k : Nat) : (esc34 l k).length ≤ 4 * l.length + 1 := by
  unfold esc34
  have := flatMap_len (l.take k)
  simp only [List.length_cons, List.length_take] at this ⊢
  omega

/-- Write of a row that is made for the call -/
theorem write2_b (B b : Nat) (c d : Nat) (K : Nat → Obj → Prop) (bs : List Value) (w : World) (h : Bld w B b K (.pointer (some ⟨b, 0, none⟩)) bs) (hlen : bs.length + 2 ≤ 1000000) :
    Calls Tryz.prog 48 #[.pointer (some ⟨b, 0, none⟩), .slice (some ⟨w.heap.size, 0, none⟩) 2 2] (w.alloc (.cells #[.int .u8 c, .int .u8 d] 5)) fun e w' => e = .returned (.tuple #[.int .i64 2, .nilIface]) ∧ Bld w' B b K (.pointer (some ⟨b, 0, none⟩)) (bs ++ [.int .u8 c, .int .u8 d]) ∧ Below B w w' := by
  have hB := h.2.1
  refine (write_b B b w.heap.size 2 2 #[.int .u8 c, .int .u8 d] (0, 0) _ bs _ (.inr (h.more ((Below.refl _ w).alloc (Nat.le_refl _) _) (Nat.le_refl _) (heap_alloc_new w _))) [.int .u8 c, .int .u8 d] rfl (by decide) (.inr ⟨rfl, rfl⟩) rfl (by intro u hu; simp at hu; rcases hu with rfl | rfl <;> rfl) hlen).mono ?_
  rintro e w' ⟨rfl, h1, h2⟩
  exact ⟨rfl, h1.less fun g x h => .inl h, ((Below.refl B w).alloc hB _).trans h2⟩
theorem write4_b (B b : Nat) (c d e f : Nat) (K : Nat → Obj → Prop) (bs : List Value) (w : World) (h : Bld w B b K (.pointer (some ⟨b, 0, none⟩)) bs) (hlen : bs.length + 4 ≤ 1000000) :
    Calls Tryz.prog 48 #[.pointer (some ⟨b, 0, none⟩), .slice (some ⟨w.heap.size, 0, none⟩) 4 4] (w.alloc (.cells #[.int .u8 c, .int .u8 d, .int .u8 e, .int .u8 f] 5)).drew fun en w' => en = .returned (.tuple #[.int .i64 4, .nilIface]) ∧ Bld w' B b K (.pointer (some ⟨b, 0, none⟩)) (bs ++ [.int .u8 c, .int .u8 d, .int .u8 e, .int .u8 f]) ∧ Below B w w' := by
  have hB := h.2.1
  refine (write_b B b w.heap.size 4 4 #[.int .u8 c, .int .u8 d, .int .u8 e, .int .u8 f] (0, 0) _ bs _ (.inr (h.more (((Below.refl _ w).alloc (Nat.le_refl _) _).drew) (Nat.le_refl _) (heap_alloc_new w _))) [.int .u8 c, .int .u8 d, .int .u8 e, .int .u8 f] rfl (by decide) (.inr ⟨rfl, rfl⟩) rfl (by intro u hu; simp at hu; rcases hu with rfl | rfl | rfl | rfl <;> rfl) hlen).mono ?_
  rintro e w' ⟨rfl, h1, h2⟩
  exact ⟨rfl, h1.less fun g x h => .inl h, (((Below.refl B w).alloc hB _).drew).trans h2⟩

theorem div_lt (c : UInt8) : (0 : Int) ≤ (c.toNat : Int) / 16 ∧ (c.toNat : Int) / 16 < 16 := by have := c.toNat_lt; omega
theorem mod_lt (c : UInt8) : (0 : Int) ≤ (c.toNat : Int) % 16 ∧ (c.toNat : Int) % 16 < 16 := by omega
theorem and15 (c : UInt8) : bits .and .u8 (c.toNat : Int) 15 = (c.toNat : Int) % 16 := by
  have : ∀ c : Fin 256, bits .and .u8 (c.val : Int) 15 = (c.val : Int) % 16 := by decide +kernel
  exact this ⟨c.toNat, c.toNat_lt⟩
def digs : List UInt8 := [48, 49, 50, 51, 52, 53, 54, 55, 56, 57, 97, 98, 99, 100, 101, 102]
theorem lt_hi (c : UInt8) : ((c.toNat : Int) / 16).toNat < digs.length := by show _ < 16; have := c.toNat_lt; omega
theorem lt_lo (c : UInt8) : ((c.toNat : Int) % 16).toNat < digs.length := by show _ < 16; omega
theorem digs_at : ∀ n : Fin 16, digs[n.val].toNat = (hexd (UInt8.ofNat n.val)).toNat := by decide +kernel
theorem digs_hi (c : UInt8) (h : ((c.toNat : Int) / 16).toNat < digs.length) : digs[((c.toNat : Int) / 16).toNat].toNat = (hexd (c / 16)).toNat := by
  have e := digs_at ⟨((c.toNat : Int) / 16).toNat, h⟩
  have : UInt8.ofNat ((c.toNat : Int) / 16).toNat = c / 16 := by
    apply UInt8.toNat_inj.1
    rw [UInt8.toNat_ofNat', UInt8.toNat_div]
    have := c.toNat_lt; simp; omega
  rw [this] at e
  exact e
theorem digs_lo (c : UInt8) (h : ((c.toNat : Int) % 16).toNat < digs.length) : digs[((c.toNat : Int) % 16).toNat].toNat = (hexd (c % 16)).toNat := by
  have e := digs_at ⟨((c.toNat : Int) % 16).toNat, h⟩
  have : UInt8.ofNat ((c.toNat : Int) % 16).toNat = c % 16 := by
    apply UInt8.toNat_inj.1
    rw [UInt8.toNat_ofNat', UInt8.toNat_mod]
    have := c.toNat_lt; simp; omega
  rw [this] at e
  exact e

set_option maxHeartbeats 1000000 in
set_option maxRecDepth 100000 in
theorem quote_any (l : List UInt8) (hl : l.length ≤ 2000) (w : World) :
    Calls Tryz.prog 29 #[.string ⟨l.toArray⟩] w fun e w' => e = .returned (.string ⟨(quoteB l).toArray⟩) ∧ Below w.heap.size w w' := by
  have HBW := Lib.hid (isBareWord_any l hl w)
  cases hbw : bareWord l with
  | true =>
    have hq : quoteB l = l := by unfold quoteB; rw [if_pos hbw]
    have HBW' := HBW.out
    rw [hbw] at HBW'
    rw [hq]
    have H := Lib.hid HBW'
    clear HBW' HBW hq hbw
    go_enter Tryz.func29, Tryz.ntmps29
    go_wp2_with (go_at_call 46; refine H.out.mono ?_; rintro e w1 ⟨rfl, hb1⟩)
    go_ret
    exact ⟨rfl, hb1⟩
  | false =>
    have hq : quoteB l = esc34 l l.length ++ [34] := by unfold quoteB esc34; rw [if_neg (by rw [hbw]; exact Bool.false_ne_true), List.take_of_length_le (Nat.le_refl _)]; rfl
    have HBW' := HBW.out
    rw [hbw] at HBW'
    have H := Lib.hid HBW'
    have HQ := Lib.hid hq
    clear HBW' HBW hq hbw
    go_enter Tryz.func29, Tryz.ntmps29
    go_wp2_with (go_at_call 46; refine H.out.mono ?_)
    rintro e w1 ⟨rfl, hb1⟩
    have HB1 := Lib.hid hb1
    clear hb1
    have hw := Lib.hid (writeByte_b w1.heap.size w1.heap.size 34 _ [] _ (bld_new w1.heap.size w1 (Nat.le_refl _)) (by decide))
    go_wp2_with (go_at_call 47; refine hw.out.mono ?_)
    rintro e w2 ⟨rfl, hbl, hb2⟩
    obtain ⟨cap, x, W1, hrun, hx, hcell, hbel⟩ := bytes_of' l w2
    have hbl := hbl.more hbel (Nat.le_refl _) hx
    have hb12 : Below w1.heap.size w1 W1 := (((Below.refl w1.heap.size w1).alloc (Nat.le_refl _) _).trans hb2).trans (hbel.mono (by have := hb2.size; simp at this; omega))
    have HB3 := Lib.hid hb12
    have HC := Lib.hid hcell
    have HL := Lib.hid hbl
    clear hb2 hbel hcell hbl hb12 hx
    go_wp2_with fail
    clear hrun
    go_loopg [5, 13] l.length (fun g _ i wr => ∃ k : Nat, g = l.length - k ∧ k ≤ l.length ∧ i = .int .i64 k ∧ Bld wr w1.heap.size w1.heap.size (fun k y => False ∨ k = w2.heap.size ∧ y = x) (.pointer (some ⟨w1.heap.size, 0, none⟩)) (bcells (esc34 l k)) ∧ Below w1.heap.size w1 wr)
    case atStart => exact ⟨0, rfl, Nat.zero_le _, rfl, HL.out, HB3.out⟩
    case round =>
      obtain ⟨k, rfl, hk, rfl, hbl, hbr⟩ := hrel
      have hbk := (hbl.2.2.choose_spec.2.2.2 w2.heap.size x (.inr ⟨rfl, rfl⟩)).1
      have HBr := Lib.hid hbr
      have HLr := Lib.hid hbl
      clear hbr hbl
      by_cases hlt : k < l.length
      · have hc := HC.out wr hbk k hlt
        have hs := esc34_succ l k hlt
        have hlen := esc34_len l k
        have hkl : (k : Int) < (l.length : Int) := by omega
        generalize hcc : l[k] = c at hc hs
        clear hcc
        have HS := Lib.hid hs
        clear hs hbk
        by_cases h10 : c = 10
        · subst h10
          have hw := Lib.hid (writeString_b w1.heap.size w1.heap.size ⟨#[92, 110]⟩ _ _ _ (.inr HLr.out) (by rw [bcells_length]; simp [esc34]) (by rw [bcells_length]; simp [ByteArray.size]; omega))
          go_wp2_with (go_at_call 34; refine hw.out.mono ?_)
          rintro e w3 ⟨rfl, hbl3, hb3⟩
          go_wp2_with fail
          go_roundg (l.length - (k + 1))
          case measure => omega
          case rel =>
            refine ⟨k + 1, rfl, by omega, by go_num, ?_, HBr.out.trans hb3⟩
            rw [HS.out, bcells_append]
            exact hbl3
        have g10 : ((c.toNat : Int) == 10) = false := byte_ne (k := 10) h10
        by_cases h92 : c = 92 ∨ c = 34
        · have he : escByte c = [92, c] := by unfold escByte; rw [if_neg h10, if_pos h92]
          have hw := Lib.hid (write2_b w1.heap.size w1.heap.size 92 c.toNat _ _ _ HLr.out (by rw [bcells_length]; omega))
          have HE := Lib.hid he
          clear he h10
          have hfin : ∀ w3, Bld w3 w1.heap.size w1.heap.size (fun k y => False ∨ k = w2.heap.size ∧ y = x) (.pointer (some ⟨w1.heap.size, 0, none⟩)) (bcells (esc34 l k) ++ [.int .u8 92, .int .u8 c.toNat]) →
              Bld w3 w1.heap.size w1.heap.size (fun k y => False ∨ k = w2.heap.size ∧ y = x) (.pointer (some ⟨w1.heap.size, 0, none⟩)) (bcells (esc34 l (k + 1))) := by
            intro w3 h
            rw [HS.out, HE.out, bcells_append]; exact h
          have HF := Lib.hid hfin
          clear hfin
          rcases h92 with rfl | h34
          · go_wp2_with (go_at_call 48; refine hw.out.mono ?_)
            rintro e w3 ⟨rfl, hbl3, hb3⟩
            go_wp2_with fail
            go_roundg (l.length - (k + 1))
            case measure => omega
            case rel => exact ⟨k + 1, rfl, by omega, by go_num, HF.out _ hbl3, HBr.out.trans hb3⟩
          · subst h34
            go_wp2_with (go_at_call 48; refine hw.out.mono ?_)
            rintro e w3 ⟨rfl, hbl3, hb3⟩
            go_wp2_with fail
            go_roundg (l.length - (k + 1))
            case measure => omega
            case rel => exact ⟨k + 1, rfl, by omega, by go_num, HF.out _ hbl3, HBr.out.trans hb3⟩
        have g92 : ((c.toNat : Int) == 92) = false := byte_ne (k := 92) (fun e => h92 (.inl e))
        have g34 : ((c.toNat : Int) == 34) = false := byte_ne (k := 34) (fun e => h92 (.inr e))
        by_cases hpr : 32 ≤ c ∧ c ≤ 126
        · have he : escByte c = [c] := by unfold escByte; rw [if_neg h10, if_neg h92, if_pos hpr]
          have hw := Lib.hid (writeByte_b w1.heap.size w1.heap.size c.toNat _ _ _ (.inr HLr.out) (by rw [bcells_length]; omega))
          have hp1 : (32 : Int) ≤ (c.toNat : Int) := by have := UInt8.le_iff_toNat_le.1 hpr.1; simp at this; omega
          have hp2 : (c.toNat : Int) ≤ 126 := by have := UInt8.le_iff_toNat_le.1 hpr.2; simp at this; omega
          have HE := Lib.hid he
          clear he h10 h92 hpr
          go_wp2_with (go_at_call 47; refine hw.out.mono ?_)
          rintro e w3 ⟨rfl, hbl3, hb3⟩
          go_wp2_with fail
          go_roundg (l.length - (k + 1))
          case measure => omega
          case rel =>
            refine ⟨k + 1, rfl, by omega, by go_num, ?_, HBr.out.trans hb3⟩
            rw [HS.out, HE.out, bcells_append]; exact hbl3
        have he : escByte c = [92, 120, hexd (c / 16), hexd (c % 16)] := by unfold escByte; rw [if_neg h10, if_neg h92, if_neg hpr]
        have HE := Lib.hid he
        have hpr' : (c.toNat : Int) < 32 ∨ 32 ≤ (c.toNat : Int) ∧ 126 < (c.toNat : Int) := by
          rw [UInt8.le_iff_toNat_le, UInt8.le_iff_toNat_le] at hpr; simp at hpr; omega
        clear he h10 h92 hpr
        have hd1 := div_lt c
        have hd2 := mod_lt c
        have hand := and15 c
        have hw := Lib.hid (write4_b w1.heap.size w1.heap.size 92 120 (digs[((c.toNat : Int) / 16).toNat]'(lt_hi c)).toNat (digs[((c.toNat : Int) % 16).toNat]'(lt_lo c)).toNat _ _ _ HLr.out (by rw [bcells_length]; omega))
        have hfin : ∀ w3, Bld w3 w1.heap.size w1.heap.size (fun k y => False ∨ k = w2.heap.size ∧ y = x) (.pointer (some ⟨w1.heap.size, 0, none⟩)) (bcells (esc34 l k) ++ [.int .u8 92, .int .u8 120, .int .u8 (digs[((c.toNat : Int) / 16).toNat]'(lt_hi c)).toNat, .int .u8 (digs[((c.toNat : Int) % 16).toNat]'(lt_lo c)).toNat]) →
            Bld w3 w1.heap.size w1.heap.size (fun k y => False ∨ k = w2.heap.size ∧ y = x) (.pointer (some ⟨w1.heap.size, 0, none⟩)) (bcells (esc34 l (k + 1))) := by
          intro w3 h
          rw [digs_hi, digs_lo] at h
          rw [HS.out, HE.out, bcells_append]; exact h
        have HF := Lib.hid hfin
        clear hfin
        rcases hpr' with hp1 | ⟨hp1, hp2⟩
        all_goals
          go_wp2_with fail
          go_region_law ((go_simp; go_at_call 48; refine hw.out.mono ?_; rintro e w3 ⟨rfl, hbl3, hb3⟩))
          all_goals
            go_wp2_with fail
            go_roundg (l.length - (k + 1))
            case measure => omega
            case rel => exact ⟨k + 1, rfl, by omega, by go_num, HF.out _ hbl3, HBr.out.trans hb3⟩
      · have hkl : ¬ (k : Int) < (l.length : Int) := by omega
        obtain rfl : k = l.length := by omega
        have hlen := esc34_len l l.length
        have hw := Lib.hid (writeByte_b w1.heap.size w1.heap.size 34 _ _ _ (.inr HLr.out) (by rw [bcells_length]; omega))
        clear hbk
        go_wp2_with (go_at_call 47; refine hw.out.mono ?_)
        rintro e w3 rfl hbl3 hb3
        have he : bcells (esc34 l l.length) ++ [.int .u8 34] = Lib.byteCells (quoteB l) := by rw [HQ.out, ← bcells_eq, bcells_append]; rfl
        rw [he] at hbl3
        have hst := Lib.hid (Any.Builder_String Tryz.lays169 Tryz.Builder_Extra_169 w1.heap.size w1.heap.size (quoteB l) w3 hbl3.is' (quote_ne_nil l))
        clear he
        go_wp2_with (go_at_call 35; refine hst.out.mono ?_)
        rintro e w4 ⟨rfl, hb4⟩
        go_wp2_with fail
        go_ret
        exact ⟨rfl, HB1.out.trans (((HBr.out.trans hb3).trans hb4).mono HB1.out.size)⟩
end Go.Proofs.YtnkhiaikdmpimaaGreatDoor
