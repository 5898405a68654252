/- An arena is made. -/
import Derived.Test.YtdjmjdfkblhgdaaArCell
import Derived.Deep.OwnRows
namespace Go.Proofs.Ytdjmjdfkblhgdaa
open Go.RowKit
theorem infoI : (Try.prog.info? 3).map (fun i => (i.zero, i.size, i.bytes)) = some (some (.int .i64 0), 1, 8) := by kernel_rfl
theorem made_zero (n : Nat) : madeCells #[.int .i64 0] n = iCells (List.replicate n 0) := by
  unfold madeCells iCells
  apply Array.ext_getElem?
  intro i
  simp only [Array.getElem?_map, Array.getElem?_range, List.map_replicate, List.getElem?_toArray, List.getElem?_replicate, List.size_toArray, List.length_cons, List.length_nil]
  split
  · rename_i h
    simp only [Option.map_some, Nat.zero_add, Nat.mod_one]; rfl
  · rfl
set_option maxRecDepth 100000 in
theorem new_n (n : Nat) (hn : n ≤ 1048576) (mp : Option Nat) (w : World) :
    Calls Try.prog 15 #[.pointer (tAddr mp), .int .i64 (n : Int)] w fun e w' => e = .returned (.pointer (some ⟨w.heap.size + 2, 0, none⟩)) ∧
      w' = ((w.alloc (.cells (iCells (List.replicate n 0)) 3)).alloc (.map #[] 0)).alloc (.cells #[.pointer (tAddr mp), .slice (some ⟨w.heap.size, 0, none⟩) n n, .map (some (w.heap.size + 1)), .int .i64 0, .int .i64 (n : Int)] 79) := by
  obtain ⟨i0, hi, hz0, hz1, hz2⟩ := info_parts infoI
  have hmm := @run_makeMap Try.prog
  have emin : min (n : Int) 1048576 = (n : Int) := by omega
  rw [← made_zero]
  go_enter Try.func15, Try.ntmps15
  go_wp2_with (refine wpList_make_row _ rfl _ _ 41 rfl 3 _ (.int .i64 0) Try.underlying41 hi hz0 hz1 rfl .i64 .i64 n rfl rfl (by rw [hz2]; omega) (by omega) ?_)
  go_returns
  exact ⟨rfl, rfl⟩
set_option maxRecDepth 100000 in
theorem new_neg (size : Int) (hs : size < 0) (mp : Option Nat) (w : World) :
    Calls Try.prog 15 #[.pointer (tAddr mp), .int .i64 size] w fun e w' => e = .returned (.pointer (some ⟨w.heap.size + 2, 0, none⟩)) ∧
      w' = ((w.alloc (.cells (iCells (List.replicate 0 0)) 3)).alloc (.map #[] 0)).alloc (.cells #[.pointer (tAddr mp), .slice (some ⟨w.heap.size, 0, none⟩) 0 0, .map (some (w.heap.size + 1)), .int .i64 0, .int .i64 0] 79) := by
  obtain ⟨i0, hi, hz0, hz1, hz2⟩ := info_parts infoI
  have hmm := @run_makeMap Try.prog
  have emax : max size 0 = 0 := by omega
  rw [← made_zero]
  go_enter Try.func15, Try.ntmps15
  go_wp2_with (refine wpList_make_row _ rfl _ _ 41 rfl 3 _ (.int .i64 0) Try.underlying41 hi hz0 hz1 rfl .i64 .i64 0 rfl rfl (by rw [hz2]; omega) (by omega) ?_)
  go_returns
  exact ⟨rfl, rfl⟩
/-- An arena is made: its parts are new, but for the meter. -/
def NewPost (size : Int) (mp : Option Nat) (mt : Option Mt) (w : World) (e : Ending) (w' : World) : Prop :=
  ∃ f : Fp, e = .returned (.pointer (some ⟨f.a, 0, none⟩)) ∧ ArenaAt w' f (newP size mt) ∧ f.t = mp ∧ w.heap.size ≤ f.a ∧ w.heap.size ≤ f.c ∧ w.heap.size ≤ f.m ∧ Below w.heap.size w w'
theorem new_post (n : Nat) (size : Int) (hn : (min (max size 0) 1048576).toNat = n) (mp : Option Nat) (mt : Option Mt) (w : World) (hmt : MtOpt w mp mt) (hu : ∀ m, mt = some m → m.used = 0 ∧ m.cells ≤ 1048576) :
    NewPost size mp mt w (.returned (.pointer (some ⟨w.heap.size + 2, 0, none⟩))) (((w.alloc (.cells (iCells (List.replicate n 0)) 3)).alloc (.map #[] 0)).alloc (.cells #[.pointer (tAddr mp), .slice (some ⟨w.heap.size, 0, none⟩) n n, .map (some (w.heap.size + 1)), .int .i64 0, .int .i64 (n : Int)] 79)) := by
  have hB : Below w.heap.size w (((w.alloc (.cells (iCells (List.replicate n 0)) 3)).alloc (.map #[] 0)).alloc (.cells #[.pointer (tAddr mp), .slice (some ⟨w.heap.size, 0, none⟩) n n, .map (some (w.heap.size + 1)), .int .i64 0, .int .i64 (n : Int)] 79)) :=
    (((Below.refl _ _).alloc (Nat.le_refl _) _).alloc (by simp) _).alloc (by simp; omega) _
  have eN : newP size mt = ⟨n, List.replicate n 0, [], 0, n, mt⟩ := by unfold newP; rw [hn]
  refine ⟨⟨w.heap.size + 2, w.heap.size, w.heap.size + 1, mp⟩, rfl, ?_, rfl, by simp, by simp, by simp, hB⟩
  rw [eN]
  refine ⟨?_, ?_, ?_, hmt.same fun b e => ?_, by rw [← eN]; exact newP_wf size mt hu, Nat.zero_le _⟩
  · have := heap_alloc_new ((w.alloc (.cells (iCells (List.replicate n 0)) 3)).alloc (.map #[] 0)) (.cells #[.pointer (tAddr mp), .slice (some ⟨w.heap.size, 0, none⟩) n n, .map (some (w.heap.size + 1)), .int .i64 0, .int .i64 (n : Int)] 79)
    rw [show ((w.alloc (.cells (iCells (List.replicate n 0)) 3)).alloc (.map #[] 0)).heap.size = w.heap.size + 2 by simp] at this
    exact this
  · exact blk_alloc (blk_alloc (heap_alloc_new _ _) _) _
  · refine MapZ.same (w := (w.alloc (.cells (iCells (List.replicate n 0)) 3)).alloc (.map #[] 0)) ?_ (Below.heap_alloc _ _ _ (by simp))
    have := MapZ.new (enc := Value.int .i64) (w.alloc (.cells (iCells (List.replicate n 0)) 3))
    rw [show (w.alloc (.cells (iCells (List.replicate n 0)) 3)).heap.size = w.heap.size + 1 by simp] at this
    exact this
  · have hl : b < w.heap.size := by
      cases mt with
      | none => rw [e] at hmt; exact hmt.elim
      | some m => rw [e] at hmt; exact blk_lt (show w.heap[b]? = some (.cells (mtCells m) 94 (0, 0)) from hmt)
    exact hB.block b hl
theorem new_any (size : Int) (hs : size ≤ 1048576) (mp : Option Nat) (mt : Option Mt) (w : World) (hmt : MtOpt w mp mt) (hu : ∀ m, mt = some m → m.used = 0 ∧ m.cells ≤ 1048576) :
    Calls Try.prog 15 #[.pointer (tAddr mp), .int .i64 size] w (NewPost size mp mt w) := by
  by_cases h : size < 0
  · refine (new_neg size h mp w).mono ?_
    rintro e w' ⟨rfl, rfl⟩
    exact new_post 0 size (by omega) mp mt w hmt hu
  · obtain ⟨n, rfl⟩ := Int.eq_ofNat_of_zero_le (show 0 ≤ size by omega)
    refine (new_n n (by omega) mp w).mono ?_
    rintro e w' ⟨rfl, rfl⟩
    exact new_post n n (by omega) mp mt w hmt hu
end Go.Proofs.Ytdjmjdfkblhgdaa
