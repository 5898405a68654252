/- What the laws' first line tells: the answers that the document fixes. -/
import Derived.Test.YtccbfcnnbdgcgaaDoorMethods
namespace Go.Proofs.YtccbfcnnbdgcgaaDoor
open Go.RowKit
attribute [local go_sem] S4.val

theorem RowAt.blk {w : World} {g : Nat} {cs : Array Value} {t : TypeId} {fr : Nat × Nat} (h : w.heap[g]? = some (.cells cs t fr)) : RowAt w g (g + 1) (some ⟨g, 0, none⟩) cs.toList := fun j u hu => by
  refine ⟨_, rfl, Nat.le_refl _, Nat.lt_succ_self _, ?_⟩
  have e : (⟨g, 0, none⟩ : Addr).add j = ⟨g, j, none⟩ := by unfold Addr.add; split <;> simp_all
  rw [e, cell_of_row w g j cs t fr h]
  simpa using hu
def L0 : List S4 := [S4.of 97 99, S4.of 99 122]
theorem L0_len : (setsOf L0).length = 4 := by decide +kernel
theorem L0_33 : remapOf L0 33 = 0 := by decide +kernel
theorem L0_98 : remapOf L0 98 = 1 := by decide +kernel
theorem L0_99 : remapOf L0 99 = 2 := by decide +kernel
theorem L0_122 : remapOf L0 122 = 3 := by decide +kernel
theorem L0_s3 : leastI (ofClass (setsOf L0) 3) = 100 := by decide +kernel
theorem L0_s4 : leastI (ofClass (setsOf L0) 4) = -1 := by decide +kernel
theorem L0_c1 : (ofClass (setsOf L0) 1).count = 2 := by decide +kernel
theorem L0_cl : (classesIn (setsOf L0) (S4.of 97 122)).length = 3 := by decide +kernel
theorem Ln_len : (setsOf []).length = 1 := by decide +kernel
theorem sampleB_of {s : S4} {k : Int} (h : leastI s = k) : sampleB s = max k 0 := by unfold sampleB; rw [h]
set_option maxRecDepth 100000 in
set_option maxHeartbeats 1000000 in
theorem awake_any (w : World) (hT : TabAt w) :
    Calls Tryd.prog 8 #[] w fun e w' => e = .returned (.bool true) ∧ Below w.heap.size w w' := by
  go_enter Tryd.func8, Tryd.ntmps8
  go_wp2_with fail
  refine (of_any 97 99 (by omega) (by omega) _).mono ?_
  rintro e w1 ⟨rfl, hB⟩
  go_wp2_with fail
  refine (of_any 99 122 (by omega) (by omega) _).mono ?_
  rintro e w2 ⟨rfl, hb2⟩
  replace hB := below_seq hB hb2 hB.size
  clear hb2
  go_wp2_with fail
  have hrow : RowAt (w2.alloc (.cells (setsCells L0).toArray 35)) 0 (w2.alloc (.cells (setsCells L0).toArray 35)).heap.size (some ⟨w2.heap.size, 0, none⟩) (setsCells L0) := (RowAt.blk (heap_alloc_new w2 (.cells (setsCells L0).toArray 35))).mono (Nat.zero_le _) (by simp)
  refine (cut_any L0 (by decide) _ 2 _ hrow).mono ?_
  rintro e w3 ⟨p, rfl, hP, hb3⟩
  replace hB := below_seq (hB.alloc hB.size _) hb3 (Nat.le_trans hB.size (by simp))
  clear hb3 hrow
  have f1 := L0_len
  have f2 := L0_33
  have f3 := L0_98
  have f4 := L0_99
  have f5 := L0_122
  have f6 := L0_s3
  have f7 := L0_s4
  have f8 := L0_c1
  have f9 := L0_cl
  have fa := Ln_len
  have fb := sampleB_of f6
  have fc := sampleB_of f7
  go_wp2_with (first
    | (go_at_call 15; refine (sample_any hP (hT.after hB) _).mono ?_; rintro e w4 ⟨rfl, hb4⟩; replace hP := hP.below hb4; replace hB := below_seq hB hb4 hB.size; clear hb4)
    | (go_at_call 17; refine (len_any hP).mono ?_; rintro e w4 ⟨rfl, rfl⟩)
    | (go_at_call 12; refine (class_any hP _ (by omega) (by omega) _ rfl (by simp [*])).mono ?_; rintro e w4 ⟨rfl, rfl⟩)
    | (go_at_call 14; refine (of_class_any hP _).mono ?_; rintro e w4 ⟨rfl, hb4⟩; replace hP := hP.below hb4; replace hB := below_seq hB hb4 hB.size; clear hb4)
    | (go_at_call 16; refine (count_any _ _).mono ?_; rintro e w4 ⟨rfl, hb4⟩; replace hP := hP.below hb4; replace hB := below_seq hB hb4 hB.size; clear hb4)
    | (go_at_call 23; refine (of_any 97 122 (by omega) (by omega) _).mono ?_; rintro e w4 ⟨rfl, hb4⟩; replace hP := hP.below hb4; replace hB := below_seq hB hb4 hB.size; clear hb4)
    | (go_at_call 18; refine (classes_any hP (by rw [L0_len]; omega) _).mono ?_; rintro e w4 ⟨A4, c4, rfl, _, hb4⟩; replace hP := hP.below hb4; replace hB := below_seq hB hb4 hB.size; clear hb4)
    | (go_at_call 9; refine (cut_any [] (by decide) none 0 _ (fun j u hu => by simp [setsCells] at hu)).mono ?_; rintro e w4 ⟨p2, rfl, hP2, hb4⟩; replace hB := below_seq hB hb4 hB.size; clear hb4 hP; have hP := hP2; clear hP2))
  go_returns
  exact ⟨rfl, hB⟩
end Go.Proofs.YtccbfcnnbdgcgaaDoor
