/- command.rows. -/
import Derived.Test.YtnkhiaikdmpimaaGreatDoorCmdG
namespace Go.Proofs.YtnkhiaikdmpimaaGreatDoor
open Go.RowKit Lx

/-- rows in memory -/
def RowsAt (w : World) (v : Value) (rs : List (List Nat)) : Prop := ∃ a cap, v = .slice a rs.length cap ∧ ∀ k (h : k < rs.length), ∃ ad rv, a = some ad ∧ w.cell? (ad.add k) = some rv ∧ RowAt w rv rs[k]
theorem RowsAt.below {w w' : World} {v : Value} {rs : List (List Nat)} (h : RowsAt w v rs) (hb : Below w.heap.size w w') : RowsAt w' v rs := by
  obtain ⟨a, cap, hv, hc⟩ := h
  refine ⟨a, cap, hv, fun k hk => ?_⟩
  obtain ⟨ad, rv, ha, hcell, hr⟩ := hc k hk
  exact ⟨ad, rv, ha, kept_one hcell hb, hr.below hb⟩
def rcells (r : List Nat) : List Value := r.map fun (p : Nat) => .int .u8 (p : Int)
theorem add_at (g k : Nat) : (⟨g, 0, none⟩ : Addr).add k = ⟨g, k, none⟩ := by unfold Addr.add; split <;> simp_all
theorem new_cell (X : World) (cs : Array Value) (T : TypeId) (j N : Nat) (hN : N = X.heap.size) (v : Value) (hv : cs[j]? = some v) : (X.alloc (.cells cs T)).cell? ⟨N, j, none⟩ = some v := by
  subst hN
  have hh : (X.alloc (.cells cs T)).heap[X.heap.size]? = some (.cells cs T (0, 0)) := by
    show (X.heap.push _)[X.heap.size]? = _
    simp
  rw [Lib.cell_of_heap hh]; exact hv
theorem row_new (w : World) (r : List Nat) (T : TypeId) : RowAt (w.alloc (.cells (rcells r).toArray T)) (.slice (some ⟨w.heap.size, 0, none⟩) r.length r.length) r := by
  refine ⟨_, _, rfl, fun k hk => ⟨_, rfl, ?_⟩⟩
  have hh : (w.alloc (.cells (rcells r).toArray T)).heap[w.heap.size]? = some (.cells (rcells r).toArray T (0, 0)) := by
    show (w.heap.push _)[w.heap.size]? = _
    simp
  rw [add_at, Lib.cell_of_heap hh]
  unfold rcells
  rw [List.getElem?_toArray, List.getElem?_map, List.getElem?_eq_getElem hk]
  rfl
theorem rows_one (w : World) (r : List Nat) (T U : TypeId) : RowsAt ((w.alloc (.cells (rcells r).toArray T)).alloc (.cells #[.slice (some ⟨w.heap.size, 0, none⟩) r.length r.length] U)) (.slice (some ⟨w.heap.size + 1, 0, none⟩) 1 1) [r] := by
  refine ⟨_, _, rfl, fun k hk => ?_⟩
  have hb : Below (w.alloc (.cells (rcells r).toArray T)).heap.size (w.alloc (.cells (rcells r).toArray T)) ((w.alloc (.cells (rcells r).toArray T)).alloc (.cells #[.slice (some ⟨w.heap.size, 0, none⟩) r.length r.length] U)) := (Below.refl _ _).alloc (Nat.le_refl _) _
  match k, hk with
  | 0, _ => exact ⟨_, _, rfl, by rw [add_at]; exact new_cell _ _ _ _ _ (by simp) _ rfl, (row_new w r T).below hb⟩
theorem rows_two (w : World) (r q : List Nat) (T U : TypeId) : RowsAt (((w.alloc (.cells (rcells r).toArray T)).alloc (.cells (rcells q).toArray T)).alloc (.cells #[.slice (some ⟨w.heap.size, 0, none⟩) r.length r.length, .slice (some ⟨w.heap.size + 1, 0, none⟩) q.length q.length] U)) (.slice (some ⟨w.heap.size + 2, 0, none⟩) 2 2) [r, q] := by
  have h1 := row_new w r T
  have h2 := row_new (w.alloc (.cells (rcells r).toArray T)) q T
  rw [World.size_alloc] at h2
  have e : (w.heap.size + 2) = ((w.alloc (.cells (rcells r).toArray T)).alloc (.cells (rcells q).toArray T)).heap.size := by simp
  have h1' := h1.below ((Below.refl _ _).alloc (Nat.le_refl _) (.cells (rcells q).toArray T))
  refine ⟨_, _, rfl, fun k hk => ?_⟩
  match k, hk with
  | 0, _ => exact ⟨_, _, rfl, by rw [add_at]; exact new_cell _ _ _ _ _ (by simp) _ rfl, h1'.below ((Below.refl _ _).alloc (Nat.le_refl _) _)⟩
  | 1, _ => exact ⟨_, _, rfl, by rw [add_at]; exact new_cell _ _ _ _ _ (by simp) _ rfl, h2.below ((Below.refl _ _).alloc (Nat.le_refl _) _)⟩
theorem rows_none (w : World) : RowsAt w (.slice none 0 0) [] := ⟨_, _, rfl, fun k hk => absurd hk (by simp)⟩

set_option maxHeartbeats 1000000 in
set_option maxRecDepth 100000 in
theorem rows_any (vb : List UInt8) (w : World) :
    Calls Tryz.prog 26 #[.string ⟨vb.toArray⟩] w fun e w' => ∃ v, e = .returned v ∧ RowsAt w' v (rowsP vb) ∧ Below w.heap.size w w' := by
  by_cases h : vb = v_create
  · subst h
    rw [show rowsP v_create = [[0]] from rfl]
    go_enter Tryz.func26, Tryz.ntmps26
    go_wp2_with fail
    go_ret
    exact ⟨_, rfl, rows_one w [0] _ _, ((Below.refl _ _).alloc (Nat.le_refl _) _).alloc (by simp) _⟩
  have n_create : (vb == [99, 114, 101, 97, 116, 101]) = false := by simpa using h
  have H_create := Lib.hid h
  clear h
  by_cases h : vb = v_drop
  · subst h
    rw [show rowsP v_drop = [[0]] from rfl]
    go_enter Tryz.func26, Tryz.ntmps26
    go_wp2_with fail
    go_ret
    exact ⟨_, rfl, rows_one w [0] _ _, ((Below.refl _ _).alloc (Nat.le_refl _) _).alloc (by simp) _⟩
  have n_drop : (vb == [100, 114, 111, 112]) = false := by simpa using h
  have H_drop := Lib.hid h
  clear h
  by_cases h : vb = v_write
  · subst h
    rw [show rowsP v_write = [[0, 3, 4]] from rfl]
    go_enter Tryz.func26, Tryz.ntmps26
    go_wp2_with fail
    go_ret
    exact ⟨_, rfl, rows_one w [0, 3, 4] _ _, ((Below.refl _ _).alloc (Nat.le_refl _) _).alloc (by simp) _⟩
  have n_write : (vb == [119, 114, 105, 116, 101]) = false := by simpa using h
  have H_write := Lib.hid h
  clear h
  by_cases h : vb = v_trim
  · subst h
    rw [show rowsP v_trim = [[0, 3]] from rfl]
    go_enter Tryz.func26, Tryz.ntmps26
    go_wp2_with fail
    go_ret
    exact ⟨_, rfl, rows_one w [0, 3] _ _, ((Below.refl _ _).alloc (Nat.le_refl _) _).alloc (by simp) _⟩
  have n_trim : (vb == [116, 114, 105, 109]) = false := by simpa using h
  have H_trim := Lib.hid h
  clear h
  by_cases h : vb = v_read
  · subst h
    rw [show rowsP v_read = [[0, 3], [0, 7, 1, 3]] from rfl]
    go_enter Tryz.func26, Tryz.ntmps26
    go_wp2_with fail
    go_ret
    exact ⟨_, rfl, rows_two w [0, 3] [0, 7, 1, 3] _ _, (((Below.refl _ _).alloc (Nat.le_refl _) _).alloc (by simp) _).alloc (by simp; omega) _⟩
  have n_read : (vb == [114, 101, 97, 100]) = false := by simpa using h
  have H_read := Lib.hid h
  clear h
  by_cases h : vb = v_snap
  · subst h
    rw [show rowsP v_snap = [[0, 1]] from rfl]
    go_enter Tryz.func26, Tryz.ntmps26
    go_wp2_with fail
    go_ret
    exact ⟨_, rfl, rows_one w [0, 1] _ _, ((Below.refl _ _).alloc (Nat.le_refl _) _).alloc (by simp) _⟩
  have n_snap : (vb == [115, 110, 97, 112]) = false := by simpa using h
  have H_snap := Lib.hid h
  clear h
  by_cases h : vb = v_destroy
  · subst h
    rw [show rowsP v_destroy = [[0, 1]] from rfl]
    go_enter Tryz.func26, Tryz.ntmps26
    go_wp2_with fail
    go_ret
    exact ⟨_, rfl, rows_one w [0, 1] _ _, ((Below.refl _ _).alloc (Nat.le_refl _) _).alloc (by simp) _⟩
  have n_destroy : (vb == [100, 101, 115, 116, 114, 111, 121]) = false := by simpa using h
  have H_destroy := Lib.hid h
  clear h
  by_cases h : vb = v_rollback
  · subst h
    rw [show rowsP v_rollback = [[0, 1]] from rfl]
    go_enter Tryz.func26, Tryz.ntmps26
    go_wp2_with fail
    go_ret
    exact ⟨_, rfl, rows_one w [0, 1] _ _, ((Below.refl _ _).alloc (Nat.le_refl _) _).alloc (by simp) _⟩
  have n_rollback : (vb == [114, 111, 108, 108, 98, 97, 99, 107]) = false := by simpa using h
  have H_rollback := Lib.hid h
  clear h
  by_cases h : vb = v_hold
  · subst h
    rw [show rowsP v_hold = [[0, 1]] from rfl]
    go_enter Tryz.func26, Tryz.ntmps26
    go_wp2_with fail
    go_ret
    exact ⟨_, rfl, rows_one w [0, 1] _ _, ((Below.refl _ _).alloc (Nat.le_refl _) _).alloc (by simp) _⟩
  have n_hold : (vb == [104, 111, 108, 100]) = false := by simpa using h
  have H_hold := Lib.hid h
  clear h
  by_cases h : vb = v_release
  · subst h
    rw [show rowsP v_release = [[0, 1]] from rfl]
    go_enter Tryz.func26, Tryz.ntmps26
    go_wp2_with fail
    go_ret
    exact ⟨_, rfl, rows_one w [0, 1] _ _, ((Below.refl _ _).alloc (Nat.le_refl _) _).alloc (by simp) _⟩
  have n_release : (vb == [114, 101, 108, 101, 97, 115, 101]) = false := by simpa using h
  have H_release := Lib.hid h
  clear h
  by_cases h : vb = v_clone
  · subst h
    rw [show rowsP v_clone = [[0, 1, 2]] from rfl]
    go_enter Tryz.func26, Tryz.ntmps26
    go_wp2_with fail
    go_ret
    exact ⟨_, rfl, rows_one w [0, 1, 2] _ _, ((Below.refl _ _).alloc (Nat.le_refl _) _).alloc (by simp) _⟩
  have n_clone : (vb == [99, 108, 111, 110, 101]) = false := by simpa using h
  have H_clone := Lib.hid h
  clear h
  by_cases h : vb = v_send
  · subst h
    rw [show rowsP v_send = [[0, 1], [0, 1, 8, 2]] from rfl]
    go_enter Tryz.func26, Tryz.ntmps26
    go_wp2_with fail
    go_ret
    exact ⟨_, rfl, rows_two w [0, 1] [0, 1, 8, 2] _ _, (((Below.refl _ _).alloc (Nat.le_refl _) _).alloc (by simp) _).alloc (by simp; omega) _⟩
  have n_send : (vb == [115, 101, 110, 100]) = false := by simpa using h
  have H_send := Lib.hid h
  clear h
  by_cases h : vb = v_scrub
  · subst h
    rw [show rowsP v_scrub = [[]] from rfl]
    go_enter Tryz.func26, Tryz.ntmps26
    go_wp2_with fail
    go_ret
    exact ⟨_, rfl, rows_one w [] _ _, ((Below.refl _ _).alloc (Nat.le_refl _) _).alloc (by simp) _⟩
  have n_scrub : (vb == [115, 99, 114, 117, 98]) = false := by simpa using h
  have H_scrub := Lib.hid h
  clear h
  by_cases h : vb = v_heal
  · subst h
    rw [show rowsP v_heal = [[]] from rfl]
    go_enter Tryz.func26, Tryz.ntmps26
    go_wp2_with fail
    go_ret
    exact ⟨_, rfl, rows_one w [] _ _, ((Below.refl _ _).alloc (Nat.le_refl _) _).alloc (by simp) _⟩
  have n_heal : (vb == [104, 101, 97, 108]) = false := by simpa using h
  have H_heal := Lib.hid h
  clear h
  by_cases h : vb = v_list
  · subst h
    rw [show rowsP v_list = [[]] from rfl]
    go_enter Tryz.func26, Tryz.ntmps26
    go_wp2_with fail
    go_ret
    exact ⟨_, rfl, rows_one w [] _ _, ((Below.refl _ _).alloc (Nat.le_refl _) _).alloc (by simp) _⟩
  have n_list : (vb == [108, 105, 115, 116]) = false := by simpa using h
  have H_list := Lib.hid h
  clear h
  by_cases h : vb = v_losses
  · subst h
    rw [show rowsP v_losses = [[]] from rfl]
    go_enter Tryz.func26, Tryz.ntmps26
    go_wp2_with fail
    go_ret
    exact ⟨_, rfl, rows_one w [] _ _, ((Below.refl _ _).alloc (Nat.le_refl _) _).alloc (by simp) _⟩
  have n_losses : (vb == [108, 111, 115, 115, 101, 115]) = false := by simpa using h
  have H_losses := Lib.hid h
  clear h
  by_cases h : vb = v_keep
  · subst h
    rw [show rowsP v_keep = [[0, 5, 6]] from rfl]
    go_enter Tryz.func26, Tryz.ntmps26
    go_wp2_with fail
    go_ret
    exact ⟨_, rfl, rows_one w [0, 5, 6] _ _, ((Below.refl _ _).alloc (Nat.le_refl _) _).alloc (by simp) _⟩
  have n_keep : (vb == [107, 101, 101, 112]) = false := by simpa using h
  have H_keep := Lib.hid h
  clear h
  by_cases h : vb = v_auto
  · subst h
    rw [show rowsP v_auto = [[0, 5]] from rfl]
    go_enter Tryz.func26, Tryz.ntmps26
    go_wp2_with fail
    go_ret
    exact ⟨_, rfl, rows_one w [0, 5] _ _, ((Below.refl _ _).alloc (Nat.le_refl _) _).alloc (by simp) _⟩
  have n_auto : (vb == [97, 117, 116, 111]) = false := by simpa using h
  have H_auto := Lib.hid h
  clear h
  have hp : rowsP vb = [] := by
    unfold rowsP
    rw [if_neg H_create.out, if_neg H_drop.out, if_neg H_write.out, if_neg H_trim.out, if_neg H_read.out, if_neg H_snap.out, if_neg H_destroy.out, if_neg H_rollback.out, if_neg H_hold.out, if_neg H_release.out, if_neg H_clone.out, if_neg H_send.out, if_neg H_scrub.out, if_neg H_heal.out, if_neg H_list.out, if_neg H_losses.out, if_neg H_keep.out, if_neg H_auto.out]
  rw [hp]
  clear hp
  go_enter Tryz.func26, Tryz.ntmps26
  go_wp2_with fail
  go_ret
  exact ⟨_, rfl, rows_none _, Below.refl _ _⟩
end Go.Proofs.YtnkhiaikdmpimaaGreatDoor
