/- strings.SplitSeq's ITERATOR, at one space: it hands out the words between the spaces, one after another; it keeps what is left in a cell of its own. -/
import Derived.Test.YtnkhiaikdmpimaaGreatDoorRangeCell
import Derived.Test.YtnkhiaikdmpimaaGreatDoorPolPlain
import Derived.Test.YtnkhiaikdmpimaaGreatDoorLexB
import Derived.RangeFuncBound
import Derived.RangeFuncCalls
import Derived.Shelf.Abstract
import Derived.Shelf.RegionOpen
import Derived.WalkKit
import Derived.OwnWalkIn
import Derived.TacticsInMore
import Derived.LoopNIn
import Derived.LoopIn
namespace Go.Proofs.YtnkhiaikdmpimaaGreatDoor
open Go.RowKit Lx
theorem wide_depth (n : Nat) (p : Prop) : ((Fence.wide.depth.isSome = true → 1 ≤ n) ∧ p) = p := propext ⟨fun h => h.2, fun h => ⟨fun e => absurd e (by decide), h⟩⟩
theorem wide_fn (f : Nat) (p : Prop) : (Fence.wide.fn f ∧ p) = p := propext ⟨fun h => h.2, fun h => ⟨trivial, h⟩⟩
attribute [local go_sem] Oper.semAt_some wide_depth wide_fn

/-- the three boxes that the iterator has captured: the separator, what is left, and how much of the separator stays -/
structure SeqAt (pb sb vb : Nat) (r : List UInt8) (w : World) : Prop where
  sep : Boxed w pb 9 (.string ⟨#[32]⟩)
  left : Boxed w sb 9 (.string ⟨r.toArray⟩)
  save : Boxed w vb 3 (.int .i64 0)
def SeqSame (pb sb vb : Nat) (A B : World) : Prop := B.heap[pb]? = A.heap[pb]? ∧ B.heap[sb]? = A.heap[sb]? ∧ B.heap[vb]? = A.heap[vb]?
theorem SeqAt.same {pb sb vb : Nat} {r : List UInt8} {A B : World} (h : SeqAt pb sb vb r A) (k : SeqSame pb sb vb A B) : SeqAt pb sb vb r B :=
  ⟨k.1.trans h.sep, k.2.1.trans h.left, k.2.2.trans h.save⟩
theorem SeqAt.turn {pb sb vb : Nat} {r : List UInt8} {A : World} (h : SeqAt pb sb vb r A) (h1 : pb ≠ sb) (h2 : vb ≠ sb) (t : List UInt8) : SeqAt pb sb vb t (A.setCell ⟨sb, 0, none⟩ (.string ⟨t.toArray⟩)) :=
  ⟨h.sep.other h1 _, h.left.set _, h.save.other h2 _⟩
theorem SeqSame.trans {pb sb vb : Nat} (A B C : World) (h : SeqSame pb sb vb A B) (k : SeqSame pb sb vb B C) : SeqSame pb sb vb A C :=
  ⟨k.1.trans h.1, k.2.1.trans h.2.1, k.2.2.trans h.2.2⟩
theorem SeqSame.put {pb sb vb l : Nat} (h1 : pb ≠ l) (h2 : sb ≠ l) (h3 : vb ≠ l) (W : World) (o : Obj) : SeqSame pb sb vb W (W.putObj l o) :=
  ⟨World.putObj_heap_other h1, World.putObj_heap_other h2, World.putObj_heap_other h3⟩
theorem SeqSame.grown {pb sb vb : Nat} {A B : World} {row : Option Nat} (hg : A.grownBy B row) (h1 : pb < A.heap.size) (h2 : sb < A.heap.size) (h3 : vb < A.heap.size) (hr : ∀ k, row = some k → k ≠ pb ∧ k ≠ sb ∧ k ≠ vb) : SeqSame pb sb vb A B :=
  ⟨hg.block _ h1 (fun e => (hr _ e.symm).1 rfl), hg.block _ h2 (fun e => (hr _ e.symm).2.1 rfl), hg.block _ h3 (fun e => (hr _ e.symm).2.2 rfl)⟩
def leftOf (sb : Nat) (w : World) : Nat := match w.cell? ⟨sb, 0, none⟩ with
  | some (.string b) => b.size
  | _ => 0
theorem leftOf_at {pb sb vb : Nat} {r : List UInt8} {w : World} (h : SeqAt pb sb vb r w) : leftOf sb w = r.length := by
  unfold leftOf
  rw [h.left.cell]
  simp [ByteArray.size]

set_option maxHeartbeats 2000000 in
set_option maxRecDepth 100000 in
theorem split_seq (s : List UInt8) (hs : s.length ≤ 4000) (pb sb vb : Nat) (hne1 : pb ≠ sb) (hne2 : vb ≠ sb) (n : Nat) :
    SeqCell n Tryz.prog 109 #[.pointer (some ⟨pb, 0, none⟩), .pointer (some ⟨sb, 0, none⟩), .pointer (some ⟨vb, 0, none⟩)] (fun x : List UInt8 => #[.string ⟨x.toArray⟩]) (SeqSame pb sb vb)
      (fun xs => xs = splitSp s) (fun pre => pre <+: splitSp s) sb (SeqAt pb sb vb s) := by
  intro l J Jx W hW hJ hJx hY h0
  refine callsIn_of_wp Tryz.func109 rfl trivial ?_ rfl
  simp only [Tryz.ntmps109, List.size_toArray, List.length_cons, List.length_nil, Nat.reduceAdd, Nat.reduceSub, Array.replicate_succ, Array.replicate_zero, List.push_toArray, List.append_toArray, List.nil_append, List.cons_append]
  have hpc := hW.sep.cell
  gi_wp2
  gi_loopw [7] (fun _ wr => ∃ (pre : List (List UInt8)) (rest : List UInt8), splitSp s = pre ++ splitSp rest ∧ rest.length ≤ 4000 ∧ SeqAt pb sb vb rest wr ∧ J pre wr) (fun _ wr => leftOf sb wr)
  case atStart => exact ⟨[], s, rfl, hs, hW, h0⟩
  case round =>
    obtain ⟨pre, rest, hsp, hr, hat, hj⟩ := hrel
    have HAT := Lib.hid hat
    have hsc := hat.sep.cell
    have hlc := hat.left.cell
    have hvc := hat.save.cell
    have hlf := hat.left.frozen
    have HIX := Lib.hid (fun w => callsIn_wide (n := n - 1) |>.2 (Tryz.strings_Index_one ⟨rest.toArray⟩ 32 w))
    rcases sp_split rest with ⟨hix, hsr⟩ | ⟨a, t, hrt, hix, hsr⟩
    · have HSP : Hid (pre ++ [rest] = splitSp s) := Lib.hid (by rw [hsp, hsr])
      obtain ⟨fn, tmps, assign, body, hy, hR⟩ := hY pre rest wr hj (by rw [HSP.out]; exact List.prefix_refl _)
      have HR := Lib.hid hR
      rw [show Lib.indexByte (⟨rest.toArray⟩ : ByteArray).data.toList 32 = -1 from hix] at HIX
      clear hsp hsr hix hR hat
      gi_wp2_with (gi_at_call 110; with_reducible refine (HIX.out _).mono ?_; rintro e w' ⟨rfl, rfl⟩)
      refine HR.out.mono ?_
      rintro e W3 (⟨rfl, hJ3, -⟩ | ⟨rfl, hJx3⟩)
      · gi_wp2
        go_end0
        exact ⟨⟨_, rfl⟩, .inl ⟨_, HSP.out, hJ3⟩⟩
      · gi_wp2
        go_end0
        exact ⟨⟨_, rfl⟩, .inr ⟨_, by rw [HSP.out]; exact List.prefix_refl _, hJx3⟩⟩
    · have HSP : Hid (splitSp s = (pre ++ [a]) ++ splitSp t) := Lib.hid (by rw [hsp, hsr]; simp)
      have HPR : Hid (pre ++ [a] <+: splitSp s) := Lib.hid (by rw [HSP.out]; exact List.prefix_append _ _)
      obtain ⟨fn, tmps, assign, body, hy, hR⟩ := hY pre a wr hj HPR.out
      have HR := Lib.hid hR
      have hra : rest.length = a.length + (t.length + 1) := by rw [hrt]; simp
      have HRA := Lib.hid hra
      have hcut1 : (⟨rest.toArray⟩ : ByteArray).extract 0 a.length = ⟨a.toArray⟩ := by rw [Lib.extract_mk, hrt]; simp
      have hcut2 : (⟨rest.toArray⟩ : ByteArray).extract (a.length + 1) (a.length + (t.length + 1)) = ⟨t.toArray⟩ := by
        rw [Lib.extract_mk, hrt, show a ++ 32 :: t = (a ++ [32]) ++ t by simp, show a.length + 1 = (a ++ [32]).length by simp, List.drop_left, List.take_of_length_le (by simp; omega)]
      have hsz : (⟨rest.toArray⟩ : ByteArray).size = a.length + (t.length + 1) := by rw [← hra]; simp [ByteArray.size]
      rw [show Lib.indexByte (⟨rest.toArray⟩ : ByteArray).data.toList 32 = (a.length : Int) from hix] at HIX
      clear hsp hsr hix hR hat
      clear hrt
      gi_wp2_with (gi_at_call 110; with_reducible refine (HIX.out _).mono ?_; rintro e w' ⟨rfl, rfl⟩)
      refine HR.out.mono ?_
      rintro e W3 (⟨rfl, hJ3, hk3⟩ | ⟨rfl, hJx3⟩)
      · have hat3 := HAT.out.same hk3
        have HAT3 := Lib.hid hat3
        have hsc3 := hat3.sep.cell
        have hlc3 := hat3.left.cell
        have hlf3 := hat3.left.frozen
        clear hat3 hk3
        gi_wp2
        go_roundw
        case rel => exact ⟨pre ++ [a], t, HSP.out, by have := HRA.out; omega, HAT3.out.turn hne1 hne2 t, hJ _ _ _ hJ3 (grownBy_setCell' _ _ _)⟩
        case measure => rw [leftOf_at (HAT3.out.turn hne1 hne2 t), leftOf_at HAT.out, HRA.out]; omega
      · gi_wp2
        refine bodyPost_ret (results_none rfl _ _ _) rfl ?_
        exact ⟨⟨_, rfl⟩, .inr ⟨_, HPR.out, hJx3⟩⟩
end Go.Proofs.YtnkhiaikdmpimaaGreatDoor
