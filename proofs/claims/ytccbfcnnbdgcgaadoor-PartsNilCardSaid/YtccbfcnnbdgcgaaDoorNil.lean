/- The law about a nil partition, walked. -/
import Derived.Test.YtccbfcnnbdgcgaaDoorAwake
import Derived.Test.YtccbfcnnbdgcgaaDoorRef
namespace Go.Proofs.YtccbfcnnbdgcgaaDoor
open Go.RowKit
attribute [local go_sem] S4.val equalIn_set equalIn_zero equalIn_bytes

theorem classes_nil (a : S4) (w : World) :
    Calls Tryd.prog 18 #[.pointer none, a.val] w fun e w' => e = .returned (.slice none 0 0) ∧ Below w.heap.size w w' := by
  go_enter Tryd.func18, Tryd.ntmps18
  go_wp2_with (go_at_call 17; refine (len_nil _).mono ?_; rintro e w' ⟨rfl, rfl⟩)
  refine wp_loop_rounds 1 ?_
  rw [rounds_succ]
  go_wp2
  go_returns
  exact ⟨rfl, (Below.refl _ _).alloc (Nat.le_refl _) _⟩
theorem built_bytes : Tryd.prog.built 29 [] = some (rcells fun _ => 0) := by kernel_rfl
theorem ofClass_far (ss : List S4) (c : Int) (h : c < 0 ∨ (ss.length : Int) ≤ c) : ofClass ss c = S4.zero := by
  unfold ofClass
  split
  · rfl
  · rw [List.getD_eq_getElem?_getD, List.getElem?_eq_none (by omega)]; rfl
theorem least_zero : leastI S4.zero = -1 := by decide +kernel
theorem sameOn_self (f : Nat → Int) : sameOn f f 0 256 = true := (sameOn_iff f f 256 0).2 fun _ _ _ => rfl
set_option maxRecDepth 100000 in
set_option maxHeartbeats 1000000 in
theorem nil_any (c : Int) (t : S4) (w : World) (hT : TabAt w) :
    Calls Tryd.prog 6 #[.int .i64 c, t.val] w fun e w' => e = .returned (.bool true) ∧ Below w.heap.size w w' := by
  go_enter Tryd.func6, Tryd.ntmps6
  have hbx := heap_alloc_new w (.cells t.cells 35)
  have hB : Below w.heap.size w (w.alloc (.cells t.cells 35)) := (Below.refl _ _).alloc (Nat.le_refl _) _
  go_wp2_with fail
  refine (sample_nil c _ (hT.after hB)).mono ?_
  rintro e w1 ⟨rfl, hb1⟩
  replace hbx := blk_below hbx hb1
  replace hB := below_seq hB hb1 hB.size
  clear hb1
  have k0 := cell_of_row _ _ 0 _ _ _ hbx
  have k1 := cell_of_row _ _ 1 _ _ _ hbx
  have k2 := cell_of_row _ _ 2 _ _ _ hbx
  have k3 := cell_of_row _ _ 3 _ _ _ hbx
  go_wp2_with fail
  have hrow : RowAt (w1.alloc (.cells (setsCells [t]).toArray 35)) 0 (w1.alloc (.cells (setsCells [t]).toArray 35)).heap.size (some ⟨w1.heap.size, 0, none⟩) (setsCells [t]) := (RowAt.blk (heap_alloc_new w1 (.cells (setsCells [t]).toArray 35))).mono (Nat.zero_le _) (by simp)
  refine (cut_any [t] (by simp) _ 1 _ hrow).mono ?_
  rintro e w3 ⟨p, rfl, hP, hb3⟩
  replace hbx := blk_below (blk_alloc hbx (.cells (setsCells [t]).toArray 35)) hb3
  replace hB := below_seq (hB.alloc hB.size _) hb3 (Nat.le_trans hB.size (by simp))
  clear hb3 hrow k0 k1 k2 k3
  have f1 := ofClass_far (setsOf [t]) (setsOf [t]).length (.inr (Int.le_refl _))
  have f2 := ofClass_far (setsOf [t]) (-1) (.inl (by decide))
  have f3 := least_zero
  have f4 := sampleB_of f3
  have f5 := zero_bytes
  have f6 : ∀ w, (Op.equalIn 10000 29 (.agg (rcells fun _ => 0)) (.agg (rcells fun _ => 0))).run Tryd.prog w = .ok true w := fun w => by rw [equalIn_bytes, sameOn_self]
  have f7 : ∀ w, Calls Tryd.prog 11 #[.pointer none] w fun e w' => e = .returned (.agg (rcells fun _ => 0)) ∧ Below w.heap.size w w' := remap_nil
  generalize (rcells fun _ => 0) = z0 at f5 f6 f7
  go_wp2_with (first
    | (go_at_call 17; refine (len_any hP).mono ?_; rintro e w4 ⟨rfl, rfl⟩)
    | (go_at_call 15; refine (sample_any hP (hT.after hB) _).mono ?_; rw [f1, f3, f4]; rintro e w4 ⟨rfl, hb4⟩; replace hP := hP.below hb4; replace hbx := blk_below hbx hb4; replace hB := below_seq hB hb4 hB.size; clear hb4))
  refine (awake_any _ (hT.after hB)).mono ?_
  rintro e w5 ⟨rfl, hb4⟩; replace hP := hP.below hb4; replace hbx := blk_below hbx hb4; replace hB := below_seq hB hb4 hB.size; clear hb4
  go_wp2_with (first
    | (go_at_call 17; refine (len_nil _).mono ?_; rintro e w4 ⟨rfl, rfl⟩)
    | (go_at_call 12; refine (class_nil _ _).mono ?_; rintro e w4 ⟨rfl, rfl⟩))
  refine (of_class_nil _ _).mono ?_
  rintro e w6 ⟨rfl, hb4⟩; replace hP := hP.below hb4; replace hbx := blk_below hbx hb4; replace hB := below_seq hB hb4 hB.size; clear hb4
  go_wp2_with (first
    | (go_at_call 11; refine (f7 _).mono ?_; rintro e w4 ⟨rfl, hb4⟩; replace hP := hP.below hb4; replace hbx := blk_below hbx hb4; replace hB := below_seq hB hb4 hB.size; clear hb4; have k0 := cell_of_row _ _ 0 _ _ _ hbx; have k1 := cell_of_row _ _ 1 _ _ _ hbx; have k2 := cell_of_row _ _ 2 _ _ _ hbx; have k3 := cell_of_row _ _ 3 _ _ _ hbx)
    | (go_at_call 18; refine (classes_nil t _).mono ?_; rintro e w4 ⟨rfl, hb4⟩; replace hP := hP.below hb4; replace hbx := blk_below hbx hb4; replace hB := below_seq hB hb4 hB.size; clear hb4))
  refine (of_class_any hP _).mono ?_
  rw [f2]
  rintro e w7 ⟨rfl, hb4⟩; replace hP := hP.below hb4; replace hbx := blk_below hbx hb4; replace hB := below_seq hB hb4 hB.size; clear hb4
  go_wp2
  go_returns
  exact ⟨rfl, hB⟩
end Go.Proofs.YtccbfcnnbdgcgaaDoor
