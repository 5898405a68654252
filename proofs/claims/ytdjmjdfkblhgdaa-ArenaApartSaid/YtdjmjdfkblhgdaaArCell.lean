/- An arena's cells: cell, Set, Get. -/
import Derived.Test.YtdjmjdfkblhgdaaArena
namespace Go.Proofs.Ytdjmjdfkblhgdaa
open Go.RowKit
theorem iCells_get (l : List Int) (i : Nat) (v : Int) (h : l[i]? = some v) : (iCells l)[i]? = some (.int .i64 v) := by simp [iCells, h]
theorem iCells_size (l : List Int) : (iCells l).size = l.length := by simp [iCells]
theorem iCells_set (l : List Int) (i : Nat) (v : Int) : (iCells l).setIfInBounds i (.int .i64 v) = iCells (l.set i v) := by
  apply Array.ext_getElem?
  intro j
  rw [Array.getElem?_setIfInBounds]
  simp only [iCells, List.getElem?_toArray, List.getElem?_map, List.getElem?_set, List.size_toArray, List.length_map]
  split
  · rename_i e; subst e; split <;> simp_all
  · rfl
set_option maxHeartbeats 1000000 in
theorem cell_ok {w : World} {f : Fp} {S : PA} (h : ArenaAt w f S) (id : Int) (r : Reg) (hf : findP S id = some r) (k : Nat) (hk : k < r.n) :
    Calls Try.prog 48 #[.pointer (some ⟨f.a, 0, none⟩), .int .i64 id, .int .i64 (k : Int)] w fun e w' => e = .returned (.tuple #[.pointer (some ⟨f.c, r.base + k, none⟩), .int .i64 0]) ∧ Below w.heap.size w w' := by
  have F := Lib.hid (find_some h id r hf)
  have C := Lib.hid (fun wx (hb : Below w.heap.size w wx) => (h.below hb).c1)
  have hp := h.wf.pos r (findP_mem hf).1
  have hs := h.wf.sz
  have d0 : decide ((k : Int) < 0) = false := by simp
  have d1 : decide ((r.n : Int) ≤ (k : Int)) = false := by simp; omega
  have hi0 : (0 : Int) ≤ (r.base : Int) + (k : Int) := by omega
  have hi1 : (r.base : Int) + (k : Int) < (S.size : Int) := by omega
  clear h hf
  go_enter Try.func48, Try.ntmps48
  go_wp2_with fail
  refine F.out.mono ?_
  unfold regVal
  rintro e w1 ⟨rfl, hb⟩
  have c1 := C.out _ (hb.alloc hb.size (.cells #[.int .i64 (r.base : Int), .int .i64 (r.n : Int)] 82))
  go_wp2
  go_quiet (fail)
  go_wp2
  go_returns
  exact ⟨rfl, below_drewN (hb.alloc hb.size _) _⟩
theorem cell_far {w : World} {f : Fp} {S : PA} (h : ArenaAt w f S) (id : Int) (r : Reg) (hf : findP S id = some r) (i : Int) (hi : i < 0 ∨ (r.n : Int) ≤ i) :
    Calls Try.prog 48 #[.pointer (some ⟨f.a, 0, none⟩), .int .i64 id, .int .i64 i] w fun e w' => e = .returned (.tuple #[.pointer none, .int .i64 2]) ∧ Below w.heap.size w w' := by
  have F := Lib.hid (find_some h id r hf)
  clear h hf
  rcases hi with hi | hi
  · have d0 : decide (i < 0) = true := by simp [hi]
    go_enter Try.func48, Try.ntmps48
    go_wp2_with fail
    refine F.out.mono ?_
    unfold regVal
    rintro e w1 ⟨rfl, hb⟩
    go_wp2
    go_returns
    exact ⟨rfl, hb.alloc hb.size _⟩
  · have d0 : decide (i < 0) = false := by simp; omega
    have d1 : decide ((r.n : Int) ≤ i) = true := by simp [hi]
    go_enter Try.func48, Try.ntmps48
    go_wp2_with fail
    refine F.out.mono ?_
    unfold regVal
    rintro e w1 ⟨rfl, hb⟩
    go_wp2
    go_returns
    exact ⟨rfl, hb.alloc hb.size _⟩
theorem cell_none {w : World} {f : Fp} {S : PA} (h : ArenaAt w f S) (id : Int) (hf : findP S id = none) (i : Int) :
    Calls Try.prog 48 #[.pointer (some ⟨f.a, 0, none⟩), .int .i64 id, .int .i64 i] w fun e w' => e = .returned (.tuple #[.pointer none, .int .i64 7]) ∧ Below w.heap.size w w' := by
  have F := Lib.hid (find_none h id hf)
  clear h hf
  go_enter Try.func48, Try.ntmps48
  go_wp2_with fail
  refine F.out.mono ?_
  rintro e w1 ⟨rfl, hb⟩
  go_wp2
  go_returns
  exact ⟨rfl, hb.alloc hb.size _⟩
theorem cell_nil (id i : Int) (w : World) :
    Calls Try.prog 48 #[.pointer none, .int .i64 id, .int .i64 i] w fun e w' => e = .returned (.tuple #[.pointer none, .int .i64 9]) ∧ Below w.heap.size w w' := by
  go_enter Try.func48, Try.ntmps48
  go_wp2_with fail
  refine (find_nil id w).mono ?_
  rintro e w1 ⟨rfl, hb⟩
  go_wp2
  go_returns
  exact ⟨rfl, hb.alloc hb.size _⟩
/-- What 'cell' tells: a place among the cells, or an error. -/
def CellRes (f : Fp) (S : PA) (id i : Int) : Value :=
  if (cellP S id i).2 = 0 then .tuple #[.pointer (some ⟨f.c, (cellP S id i).1, none⟩), .int .i64 0] else .tuple #[.pointer none, .int .i64 ((cellP S id i).2 : Int)]
theorem cell_any {w : World} {f : Fp} {S : PA} (h : ArenaAt w f S) (id i : Int) :
    Calls Try.prog 48 #[.pointer (some ⟨f.a, 0, none⟩), .int .i64 id, .int .i64 i] w fun e w' => e = .returned (CellRes f S id i) ∧ Below w.heap.size w w' := by
  cases hf : findP S id with
  | none =>
    have e : cellP S id i = (0, 7) := by unfold cellP; rw [hf]
    rw [show CellRes f S id i = .tuple #[.pointer none, .int .i64 7] by unfold CellRes; rw [e]; rfl]
    exact cell_none h id hf i
  | some r =>
    by_cases hi : i < 0 ∨ (r.n : Int) ≤ i
    · have e : cellP S id i = (0, 2) := by unfold cellP; rw [hf]; exact if_pos hi
      rw [show CellRes f S id i = .tuple #[.pointer none, .int .i64 2] by unfold CellRes; rw [e]; rfl]
      exact cell_far h id r hf i hi
    · obtain ⟨k, rfl⟩ := Int.eq_ofNat_of_zero_le (show 0 ≤ i by omega)
      have e : cellP S id (k : Int) = (r.base + k, 0) := by unfold cellP; rw [hf]; simp only; rw [if_neg hi, Int.toNat_natCast]
      rw [show CellRes f S id (k : Int) = .tuple #[.pointer (some ⟨f.c, r.base + k, none⟩), .int .i64 0] by unfold CellRes; rw [e]; rfl]
      exact cell_ok h id r hf k (by omega)
theorem get_any {w : World} {f : Fp} {S : PA} (h : ArenaAt w f S) (id i : Int) :
    Calls Try.prog 21 #[.pointer (some ⟨f.a, 0, none⟩), .int .i64 id, .int .i64 i] w fun e w' => e = .returned (.tuple #[.int .i64 (getP S id i).1, .int .i64 ((getP S id i).2 : Int)]) ∧ Below w.heap.size w w' := by
  have CA := cell_any h id i
  unfold CellRes at CA
  rcases hc : cellP S id i with ⟨a, e0⟩
  rw [hc] at CA
  by_cases he : e0 = 0
  · subst he
    obtain ⟨r, -, -, -, -, hlt⟩ := cellP_lt h.wf hc
    have hat := List.getElem?_eq_getElem (show a < S.cells.length by rw [h.wf.len]; exact hlt)
    have e1 : getP S id i = (S.cells[a]'(by rw [h.wf.len]; exact hlt), 0) := by unfold getP; rw [hc]; simp [List.getD_eq_getElem?_getD, hat]
    rw [e1]
    generalize S.cells[a]'(by rw [h.wf.len]; exact hlt) = v at *
    simp only [if_true] at CA
    have C := Lib.hid (fun wx (hb : Below w.heap.size w wx) => (show wx.cell? ⟨f.c, a, none⟩ = some (.int .i64 v) from (cell_of_row _ _ a _ _ _ (h.below hb).bc).trans (iCells_get _ _ _ hat)))
    have CA' := Lib.hid CA
    clear h hc e1 hat CA
    go_enter Try.func21, Try.ntmps21
    go_wp2_with fail
    refine CA'.out.mono ?_
    rintro e w1 ⟨rfl, hb⟩
    have c1 := C.out _ hb
    go_wp2
    go_returns
    exact ⟨rfl, hb⟩
  · have e1 : getP S id i = (0, e0) := by unfold getP; rw [hc]; split <;> simp_all
    rw [e1]
    simp only [if_neg he] at CA
    have d0 : ((e0 : Int) != 0) = true := by simp [he]
    have CA' := Lib.hid CA
    clear h hc e1 CA he
    go_enter Try.func21, Try.ntmps21
    go_wp2_with fail
    refine CA'.out.mono ?_
    rintro e w1 ⟨rfl, hb⟩
    go_wp2
    go_returns
    exact ⟨rfl, hb⟩
theorem get_nil (id i : Int) (w : World) : Calls Try.prog 21 #[.pointer none, .int .i64 id, .int .i64 i] w fun e w' => e = .returned (.tuple #[.int .i64 0, .int .i64 9]) ∧ Below w.heap.size w w' := by
  go_enter Try.func21, Try.ntmps21
  go_wp2_with fail
  refine (cell_nil id i w).mono ?_
  rintro e w1 ⟨rfl, hb⟩
  go_wp2
  go_returns
  exact ⟨rfl, hb⟩
theorem mv_set {f : Fp} {w w1 : World} (h : Mv f w w1) (j : Nat) (v : Value) : Mv f w (w1.setCell ⟨f.c, j, none⟩ v) :=
  ⟨h.os, h.tape, h.output, by simpa using h.size, fun k hk h1 h2 h3 h4 => (Below.heap_setCell w1 _ _ k h2).trans (h.block k hk h1 h2 h3 h4)⟩
theorem ArenaAt.ne {w : World} {f : Fp} {S : PA} (h : ArenaAt w f S) : f.a ≠ f.c ∧ f.m ≠ f.a ∧ f.m ≠ f.c ∧ (∀ t, f.t = some t → t ≠ f.a ∧ t ≠ f.c ∧ t ≠ f.m) := by
  obtain ⟨es, cl, hm, _⟩ := h.bm
  have ha := h.ba
  have hc := h.bc
  refine ⟨fun e => ?_, fun e => ?_, fun e => ?_, fun t e => ?_⟩
  · rw [e, hc] at ha; injection ha with ha; injection ha with _ ha; revert ha; decide
  · rw [e, ha] at hm; cases hm
  · rw [e, hc] at hm; cases hm
  · have ht := h.bt
    rw [e] at ht
    cases hmt : S.mt with
    | none => rw [hmt] at ht; exact ht.elim
    | some m =>
      rw [hmt] at ht
      have ht : w.heap[t]? = some (.cells (mtCells m) 94 (0, 0)) := ht
      refine ⟨fun e => ?_, fun e => ?_, fun e => ?_⟩
      · rw [e, ha] at ht; injection ht with ht; injection ht with _ ht; revert ht; decide
      · rw [e, hc] at ht; injection ht with ht; injection ht with _ ht; revert ht; decide
      · rw [e, hm] at ht; cases ht
theorem set_any {w : World} {f : Fp} {S : PA} (h : ArenaAt w f S) (id i v : Int) :
    Calls Try.prog 17 #[.pointer (some ⟨f.a, 0, none⟩), .int .i64 id, .int .i64 i, .int .i64 v] w fun e w' => e = .returned (.int .i64 ((setP S id i v).1 : Int)) ∧ ArenaAt w' f (setP S id i v).2 ∧ Mv f w w' := by
  have CA := cell_any h id i
  unfold CellRes at CA
  have hwf := setP_wf h.wf id i v
  rcases hc : cellP S id i with ⟨a, e0⟩
  rw [hc] at CA
  by_cases he : e0 = 0
  · subst he
    obtain ⟨r, -, -, -, -, hlt⟩ := cellP_lt h.wf hc
    obtain ⟨v0, hat⟩ : ∃ v0, S.cells[a]? = some v0 := ⟨_, List.getElem?_eq_getElem (show a < S.cells.length by rw [h.wf.len]; exact hlt)⟩
    have e1 : setP S id i v = (0, { S with cells := S.cells.set a v }) := by unfold setP; rw [hc]; rfl
    rw [e1] at hwf ⊢
    simp only at hwf ⊢
    simp only [if_true] at CA
    have C := Lib.hid (fun wx (hb : Below w.heap.size w wx) => (show wx.cell? ⟨f.c, a, none⟩ = some (.int .i64 _) from (cell_of_row _ _ a _ _ _ (h.below hb).bc).trans (iCells_get _ _ _ hat)))
    have G := Lib.hid (fun wx (hb : Below w.heap.size w wx) => frozen_of_row wx f.c a _ _ (h.below hb).bc)
    have fin : Hid (∀ w1, Below w.heap.size w w1 → ArenaAt (w1.setCell ⟨f.c, a, none⟩ (.int .i64 v)) f { S with cells := S.cells.set a v } ∧ Mv f w (w1.setCell ⟨f.c, a, none⟩ (.int .i64 v))) := fun w1 hb => by
      have h1 := h.below hb
      have hn := h1.ne
      refine ⟨⟨(Below.heap_setCell w1 _ _ f.a hn.1).trans h1.ba, ?_, h1.bm.same (Below.heap_setCell w1 _ _ f.m hn.2.2.1), h1.bt.same fun b e => Below.heap_setCell w1 _ _ b (hn.2.2.2 b e).2.1, hwf, h1.la⟩, mv_set (Mv.of_below f hb) _ _⟩
      rw [heap_setCell_same w1 f.c a _ _ _ h1.bc, iCells_set]
    have CA' := Lib.hid CA
    clear h hc e1 hat CA hwf
    go_enter Try.func17, Try.ntmps17
    go_wp2_with fail
    refine CA'.out.mono ?_
    rintro e w1 ⟨rfl, hb⟩
    have c1 := C.out _ hb
    have g1 := G.out _ hb
    go_wp2
    go_returns
    exact ⟨rfl, fin.out _ hb⟩
  · have e1 : setP S id i v = (e0, S) := by unfold setP; rw [hc]; split <;> simp_all
    rw [e1]
    simp only [if_neg he] at CA
    have d0 : ((e0 : Int) == 0) = false := by simp [he]
    have fin : Hid (∀ w1, Below w.heap.size w w1 → ArenaAt w1 f S ∧ Mv f w w1) := fun w1 hb => ⟨h.below hb, Mv.of_below f hb⟩
    have CA' := Lib.hid CA
    clear h hc e1 CA he hwf
    go_enter Try.func17, Try.ntmps17
    go_wp2_with fail
    refine CA'.out.mono ?_
    rintro e w1 ⟨rfl, hb⟩
    go_wp2
    go_returns
    exact ⟨rfl, fin.out _ hb⟩
theorem set_nil (id i v : Int) (w : World) : Calls Try.prog 17 #[.pointer none, .int .i64 id, .int .i64 i, .int .i64 v] w fun e w' => e = .returned (.int .i64 9) ∧ Below w.heap.size w w' := by
  go_enter Try.func17, Try.ntmps17
  go_wp2_with fail
  refine (cell_nil id i w).mono ?_
  rintro e w1 ⟨rfl, hb⟩
  go_wp2
  go_returns
  exact ⟨rfl, hb⟩
end Go.Proofs.Ytdjmjdfkblhgdaa
