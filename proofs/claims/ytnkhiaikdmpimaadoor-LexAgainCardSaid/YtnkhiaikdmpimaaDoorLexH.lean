/- THE REFERENCE'S quoted AND Split. -/
import Derived.Test.YtnkhiaikdmpimaaDoorLexG
namespace Go.Proofs.YtnkhiaikdmpimaaDoor
open Go.RowKit Lx

@[go_sem] theorem str_append (a b : List UInt8) : (⟨a.toArray⟩ : ByteArray) ++ ⟨b.toArray⟩ = ⟨(a ++ b).toArray⟩ := by
  apply str_mk
  rw [ByteArray.data_append]
  simp
/-- 'string([]byte{c})' -/
theorem one_byte (c : UInt8) (n : Nat) (w : World) : (convert 58 9 (.slice (some ⟨w.heap.size, 0, none⟩) 1 n)).run Tryd.prog (w.alloc (.cells #[.int .u8 c.toNat] 5)) = .ok (.string ⟨[c].toArray⟩) (w.alloc (.cells #[.int .u8 c.toNat] 5)) := by
  refine run_convert_bytes_back (P := Tryd.prog) _ 58 9 5 ⟨w.heap.size, 0, none⟩ n [c] Tryd.underlying58 Tryd.underlying5 Tryd.underlying9 ?_
  intro j hj
  obtain rfl : j = 0 := by simpa using hj
  have hadd : (⟨w.heap.size, 0, none⟩ : Addr).add 0 = ⟨w.heap.size, 0, none⟩ := by unfold Addr.add; simp
  rw [hadd, World.cell?_alloc_mark]
  simp

/-- what the reference's quoted hands back -/
def RQ (l r : List UInt8) (e : Ending) : Prop :=
  match qscan [] r with
  | some (x, t) => ∃ n : Nat, 0 < n ∧ n ≤ l.length ∧ l.drop n = t ∧ e = .returned (.tuple #[.string ⟨x.toArray⟩, .int .i64 n])
  | none => e = .returned (.tuple #[.string ⟨#[]⟩, .int .i64 0])

theorem drop_cons {l t : List UInt8} {i : Nat} {c : UInt8} (h : l.drop i = c :: t) : i < l.length ∧ l.drop (i + 1) = t ∧ ∀ (hi : i < l.length), l[i] = c := by
  have hi : i < l.length := by
    rcases Nat.lt_or_ge i l.length with h' | h'
    · exact h'
    · rw [List.drop_of_length_le h'] at h; cases h
  have h1 := List.drop_eq_getElem_cons hi
  rw [h] at h1
  injection h1 with h1 h2
  exact ⟨hi, h2.symm, fun _ => h1.symm⟩

set_option maxHeartbeats 1000000 in
set_option maxRecDepth 100000 in
theorem rquoted_any (l r : List UInt8) (h1 : l.drop 1 = r) (h0 : 0 < l.length) (hl : l.length ≤ 1000) (w : World) :
    Calls Tryd.prog 21 #[.string ⟨l.toArray⟩] w fun e w' => RQ l r e ∧ Below w.heap.size w w' := by
  have H1 := Lib.hid h1
  clear h1
  go_enter Tryd.func21, Tryd.ntmps21
  go_wp2_with fail
  go_loopg [4, 5, 6, 7, 8] (l.length - 1) (fun g vo vi _ _ _ wr => ∃ (i : Nat) (out t : List UInt8), vo = .string ⟨out.toArray⟩ ∧ vi = .int .i64 i ∧ l.drop i = t ∧ i ≤ l.length ∧ qscan out t = qscan [] r ∧ out.length + t.length ≤ l.length ∧ g = t.length ∧ Below w.heap.size w wr)
  case atStart =>
    exact ⟨1, [], r, rfl, rfl, H1.out, h0, rfl, by rw [← H1.out]; simp, by rw [← H1.out]; simp, Below.refl _ _⟩
  case round =>
    obtain ⟨i, out, t, rfl, rfl, ht, hi, hq, hle, rfl, hbel⟩ := hrel
    have HB := Lib.hid hbel
    have HQ := Lib.hid hq
    have HT := Lib.hid ht
    have hsz := hbel.size
    clear hbel hq ht
    obtain rfl | ⟨c, t, rfl⟩ : t = [] ∨ ∃ c t', t = c :: t' := by cases t <;> simp
    · have hi' : l.length ≤ i := by have := HT.out; rwa [List.drop_eq_nil_iff] at this
      go_wp2_with fail
      go_ret2
      refine ⟨?_, HB.out⟩
      unfold RQ
      rw [← HQ.out]; rfl
    obtain ⟨hlt, hd1, hget⟩ := drop_cons HT.out
    have hg := hget hlt
    have HD1 := Lib.hid hd1
    simp only [List.length_cons] at hle
    have hi1 : (i : Int) < (l.length : Int) := by omega
    clear hget hd1 hi
    by_cases h1 : c = 34
    · subst h1
      have hq : qscan [] r = if stopsB t then some (out, t) else none := by
        rw [← HQ.out, q_cons, if_pos rfl]
      have HQ2 := Lib.hid hq
      clear hq
      obtain rfl | ⟨d, t, rfl⟩ : t = [] ∨ ∃ d t', t = d :: t' := by cases t <;> simp
      · have hi2 : l.length ≤ i + 1 := by have := HD1.out; rwa [List.drop_eq_nil_iff] at this
        go_wp2_with fail
        go_ret2
        refine ⟨?_, HB.out⟩
        unfold RQ
        rw [HQ2.out]
        exact ⟨i + 1, by omega, by omega, HD1.out, rfl⟩
      obtain ⟨hlt2, hd2, hget2⟩ := drop_cons HD1.out
      have hg2 := hget2 hlt2
      have hi2 : (i : Int) + 1 < (l.length : Int) := by omega
      clear hd2 hget2
      cases hb : blankB d with
      | true =>
        have Hb := rblank_any d
        rw [hb] at Hb
        have HC := Lib.hid Hb
        have HS := Lib.hid (show stopsB (d :: t) = true by simp [stopsB, hb])
        clear Hb hb
        go_wp2_with (go_at_call 20; refine (HC.out _).mono ?_; rintro e w' ⟨rfl, rfl⟩)
        go_ret2
        refine ⟨?_, HB.out⟩
        unfold RQ
        rw [HQ2.out, if_pos HS.out]
        exact ⟨i + 1, by omega, by omega, HD1.out, rfl⟩
      | false =>
        have Hb := rblank_any d
        rw [hb] at Hb
        have HC := Lib.hid Hb
        by_cases h35 : d = 35
        · have HS := Lib.hid (show stopsB (d :: t) = true by simp [stopsB, h35])
          have g35 : ((d.toNat : Int) != 35) = false := by subst h35; rfl
          clear Hb hb h35
          go_wp2_with (go_at_call 20; refine (HC.out _).mono ?_; rintro e w' ⟨rfl, rfl⟩)
          go_ret2
          refine ⟨?_, HB.out⟩
          unfold RQ
          rw [HQ2.out, if_pos HS.out]
          exact ⟨i + 1, by omega, by omega, HD1.out, rfl⟩
        · have HS := Lib.hid (show ¬ stopsB (d :: t) = true by simp [stopsB, hb, h35])
          have g35 : ((d.toNat : Int) != 35) = true := by
            have := byte_ne (k := 35) h35
            rw [bne_iff_ne]; exact beq_eq_false_iff_ne.1 this
          clear Hb hb h35
          go_wp2_with (go_at_call 20; refine (HC.out _).mono ?_; rintro e w' ⟨rfl, rfl⟩)
          go_ret2
          refine ⟨?_, HB.out⟩
          unfold RQ
          rw [HQ2.out, if_neg HS.out]
          rfl
    have g1 : ((c.toNat : Int) == 34) = false := byte_ne (k := 34) h1
    by_cases h2 : c = 92
    · subst h2
      have hle2 : t.length ≤ 2000 := by omega
      have HE := Lib.hid (resc_any t hle2)
      clear h1 g1
      cases he : escB t with
      | none =>
        have e1 : escX t = 0 ∧ escN t = 0 := by simp [escX, escN, he]
        have hq : qscan [] r = none := by rw [← HQ.out, q_cons]; simp [he]
        have HQ2 := Lib.hid hq
        rw [e1.1, e1.2] at HE
        clear hq he e1
        go_wp2_with fail
        rw [HD1.out]
        refine (HE.out _).mono ?_
        rintro e w' ⟨rfl, m, rfl⟩
        go_wp2_with fail
        go_ret2
        refine ⟨?_, bdrew HB.out _⟩
        unfold RQ
        rw [HQ2.out]; rfl
      | some p =>
        obtain ⟨x, n⟩ := p
        have e1 : escX t = x.toNat ∧ escN t = n := by simp [escX, escN, he]
        have hp := esc_pos he
        have hq : qscan (out ++ [x]) (t.drop n) = qscan [] r := by rw [← HQ.out, q_cons]; simp [he]
        have HQ2 := Lib.hid hq
        have hn0 : ((n : Int) == 0) = false := by rw [beq_eq_false_iff_ne]; omega
        have hln : l.length = i + 1 + t.length := by have := congrArg List.length HT.out; simp only [List.length_drop, List.length_cons] at this; omega
        rw [e1.1, e1.2] at HE
        have hn1 : (i : Int) + (n : Int) ≤ 1000 := by omega
        have HLN := Lib.hid hln
        clear hq he e1 hln
        go_wp2_with fail
        rw [HD1.out]
        refine (HE.out _).mono ?_
        rintro e w' ⟨rfl, m, rfl⟩
        have ob : (convert 58 9 (.slice (some ⟨wr.heap.size, 0, none⟩) 1 1)).run Tryd.prog ((wr.drewN m).alloc (.cells #[.int .u8 x.toNat] 5)) = .ok (.string ⟨[x].toArray⟩) ((wr.drewN m).alloc (.cells #[.int .u8 x.toNat] 5)) := one_byte x 1 (wr.drewN m)
        go_wp2_with fail
        go_roundg (t.drop n).length
        case measure => simp only [List.length_drop, List.length_cons]; omega
        case rel =>
          refine ⟨i + n + 1, out ++ [x], t.drop n, rfl, by go_num, ?_, ?_, HQ2.out, ?_, rfl, (bdrew HB.out m).alloc hsz _⟩
          · have := HD1.out
            rw [← this, List.drop_drop]; congr 1; omega
          · have := HLN.out; omega
          · simp only [List.length_append, List.length_cons, List.length_nil, List.length_drop]; omega
    have g2 : ((c.toNat : Int) == 92) = false := byte_ne (k := 92) h2
    have hq : qscan (out ++ [c]) t = qscan [] r := by rw [← HQ.out, q_cons]; simp [h1, h2]
    have HQ2 := Lib.hid hq
    have ob := one_byte c 1 wr
    clear hq h1 h2
    go_wp2_with fail
    go_roundg t.length
    case measure => simp only [List.length_cons]; omega
    case rel =>
      refine ⟨i + 1, out ++ [c], t, rfl, by go_num, HD1.out, hlt, HQ2.out, ?_, rfl, HB.out.alloc hsz _⟩
      simp only [List.length_append, List.length_cons, List.length_nil]; omega
end Go.Proofs.YtnkhiaikdmpimaaDoor
