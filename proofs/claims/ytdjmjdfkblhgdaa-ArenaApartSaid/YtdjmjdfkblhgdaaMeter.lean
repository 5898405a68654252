/- The meter's methods, each by what it computes. -/
import Derived.Test.YtdjmjdfkblhgdaaMapz
import Derived.Test.YtdjmjdfkblhgdaaArPlain
import Derived.Test.YtdjmjdfkblhgdaaProg
import Derived.Handy
import Derived.BigQuiet
import Derived.Deep.QuietTactic
import Derived.RegionTactic
import Derived.ChangeAlike
namespace Go.Proofs.Ytdjmjdfkblhgdaa
open Go.RowKit
def mtCells (m : Mt) : Array Value := #[.int .i64 (m.used : Int), .int .i64 (m.most : Int), .int .i64 (m.cells : Int), .int .i64 (m.done : Int), .int .i64 (m.steps : Int), .int .i64 (m.e : Int)]
def MtAt (w : World) (t : Nat) (m : Mt) : Prop := w.heap[t]? = some (.cells (mtCells m) 94 (0, 0))
theorem MtAt.c0 {w : World} {t : Nat} {m : Mt} (h : MtAt w t m) : w.cell? ⟨t, 0, none⟩ = some (.int .i64 (m.used : Int)) := cell_of_row _ _ 0 _ _ _ h
theorem MtAt.c1 {w : World} {t : Nat} {m : Mt} (h : MtAt w t m) : w.cell? ⟨t, 1, none⟩ = some (.int .i64 (m.most : Int)) := cell_of_row _ _ 1 _ _ _ h
theorem MtAt.c2 {w : World} {t : Nat} {m : Mt} (h : MtAt w t m) : w.cell? ⟨t, 2, none⟩ = some (.int .i64 (m.cells : Int)) := cell_of_row _ _ 2 _ _ _ h
theorem MtAt.c5 {w : World} {t : Nat} {m : Mt} (h : MtAt w t m) : w.cell? ⟨t, 5, none⟩ = some (.int .i64 (m.e : Int)) := cell_of_row _ _ 5 _ _ _ h
theorem grown_drewN {w w1 : World} {row : Option Nat} (h : w.grownBy w1 row) (n : Nat) : w.grownBy (w1.drewN n) row := ⟨h.os, h.tape, h.output, h.size, h.block⟩
theorem grown_drew {w w1 : World} {row : Option Nat} (h : w.grownBy w1 row) : w.grownBy w1.drew row := ⟨h.os, h.tape, h.output, h.size, h.block⟩
theorem grown_set {w w1 : World} {t : Nat} (h : w.grownBy w1 (some t)) (j : Nat) (v : Value) : w.grownBy (w1.setCell ⟨t, j, none⟩ v) (some t) :=
  ⟨h.os, h.tape, h.output, by simpa using h.size, fun k hk hne => (Below.heap_setCell w1 _ _ k (fun e => hne (by rw [e]))).trans (h.block k hk hne)⟩
theorem mt_set {w : World} {t : Nat} {cs : Array Value} {ty : TypeId} (h : w.heap[t]? = some (.cells cs ty (0, 0))) (j : Nat) (v : Value) : (w.setCell ⟨t, j, none⟩ v).heap[t]? = some (.cells (cs.setIfInBounds j v) ty (0, 0)) := heap_setCell_same w t j cs ty v h
theorem between_any (n most : Int) (w : World) : Calls Try.prog 55 #[.int .i64 n, .int .i64 most] w fun e w' => e = .returned (.int .i64 (min (max n 0) most)) ∧ w = w' := by
  go_enter Try.func55, Try.ntmps55
  go_wp2
  all_goals
    go_returns
    exact ⟨ret_int (by omega), rfl⟩
theorem give_nil (n : Int) (w : World) : Calls Try.prog 50 #[.pointer none, .int .i64 n] w fun e w' => e = .returned (.bool false) ∧ w = w' := by
  go_enter Try.func50, Try.ntmps50
  go_wp2
  go_returns
  exact ⟨rfl, rfl⟩
theorem give_any (n : Nat) (t : Nat) (m : Mt) (w : World) (h : MtAt w t m) (hn : n ≤ m.used) (hb : m.used ≤ 1099511627776) : Calls Try.prog 50 #[.pointer (some ⟨t, 0, none⟩), .int .i64 (n : Int)] w fun e w' => e = .returned (.bool true) ∧ MtAt w' t { m with used := m.used - n } ∧ w.grownBy w' (some t) := by
  have c0 := h.c0
  have f0 := frozen_of_row _ _ 0 _ _ h
  have d1 : decide ((m.used : Int) < (n : Int)) = false := by simp; omega
  have d0 : decide ((n : Int) < 0) = false := by simp
  have H := Lib.hid h
  clear h
  go_enter Try.func50, Try.ntmps50
  go_wp2
  go_returns
  refine ⟨rfl, ?_, grown_set (World.grownBy.refl _ _) 0 _⟩
  have := mt_set H.out 0 (.int .i64 ((m.used : Int) - (n : Int)))
  unfold MtAt
  rw [this]
  simp [mtCells]; omega
theorem refuse_any (t : Nat) (m : Mt) (e : Nat) (w : World) (h : MtAt w t m) : Calls Try.prog 70 #[.pointer (some ⟨t, 0, none⟩), .int .i64 (e : Int)] w fun x w' => x = .returned (.bool false) ∧ MtAt w' t (mtRefuse m e) ∧ w.grownBy w' (some t) := by
  have c0 := h.c5
  have f0 := frozen_of_row _ _ 5 _ _ h
  have H := Lib.hid h
  clear h
  by_cases he : m.e = 0
  · have d1 : ((m.e : Int) == 0) = true := by simp [he]
    have he' := Lib.hid he
    clear he
    go_enter Try.func70, Try.ntmps70
    go_wp2
    go_returns
    refine ⟨rfl, ?_, grown_set (World.grownBy.refl _ _) 5 _⟩
    have := mt_set H.out 5 (.int .i64 (e : Int))
    unfold MtAt
    rw [this]
    simp [mtCells, mtRefuse, he'.out]
  · have d1 : ((m.e : Int) == 0) = false := by simp [he]
    have he' := Lib.hid he
    clear he
    go_enter Try.func70, Try.ntmps70
    go_wp2
    go_returns
    refine ⟨rfl, ?_, World.grownBy.refl _ _⟩
    have : mtRefuse m e = m := by simp [mtRefuse, he'.out]
    rw [this]; exact H.out
set_option maxHeartbeats 1000000 in
theorem take_no (n : Nat) (t : Nat) (m : Mt) (w : World) (h : MtAt w t m) (hb : m.used ≤ 1099511627776) (hc : m.cells ≤ 1099511627776) (hn : ¬ (n : Int) ≤ (m.cells : Int) - (m.used : Int)) :
    Calls Try.prog 47 #[.pointer (some ⟨t, 0, none⟩), .int .i64 (n : Int)] w fun e w' => e = .returned (.bool false) ∧ MtAt w' t (mtRefuse m 3) ∧ w.grownBy w' (some t) := by
  have c0 := h.c0
  have c2 := h.c2
  have d0 : decide ((n : Int) < 0) = false := by simp
  have d1 : decide ((m.cells : Int) - (m.used : Int) < (n : Int)) = true := by simp; omega
  have R := Lib.hid (fun wx (hx : MtAt wx t m) => refuse_any t m 3 wx hx)
  have H := Lib.hid h
  clear h
  go_enter Try.func47, Try.ntmps47
  go_wp2
  go_quiet (fail)
  go_wp2_with (go_at_call 70; refine (R.out _ ?_).mono ?_; (exact H.out); rintro e w1 ⟨rfl, h1, hg⟩)
  go_returns
  exact ⟨rfl, h1, ⟨hg.os, hg.tape, hg.output, hg.size, hg.block⟩⟩
set_option maxHeartbeats 1000000 in
theorem take_yes (n : Nat) (t : Nat) (m : Mt) (w : World) (h : MtAt w t m) (hb : m.used ≤ 1099511627776) (hc : m.cells ≤ 1099511627776) (hn : (n : Int) ≤ (m.cells : Int) - (m.used : Int)) :
    Calls Try.prog 47 #[.pointer (some ⟨t, 0, none⟩), .int .i64 (n : Int)] w fun e w' => e = .returned (.bool true) ∧ MtAt w' t (mtTake m n) ∧ w.grownBy w' (some t) := by
  have c0 := h.c0
  have c1 := h.c1
  have c2 := h.c2
  have f0 := frozen_of_row _ _ 0 _ _ h
  have f1 := frozen_of_row _ _ 1 _ _ h
  have d0 : decide ((n : Int) < 0) = false := by simp
  have d1 : decide ((m.cells : Int) - (m.used : Int) < (n : Int)) = false := by simp; omega
  have H := Lib.hid h
  clear h
  go_enter Try.func47, Try.ntmps47
  go_wp2
  go_quiet (fail)
  go_wp2
  have hm1 : MtAt ((w.drewN nq).setCell ⟨t, 0, none⟩ (.int .i64 ((m.used : Int) + (n : Int)))) t { m with used := m.used + n } := by
    have := mt_set (w := w.drewN nq) H.out 0 (.int .i64 ((m.used : Int) + (n : Int)))
    unfold MtAt
    rw [this]
    simp [mtCells]
  have hg1 : w.grownBy ((w.drewN nq).setCell ⟨t, 0, none⟩ (.int .i64 ((m.used : Int) + (n : Int)))) (some t) := grown_set (grown_drewN (World.grownBy.refl _ _) nq) 0 _
  generalize (w.drewN nq).setCell ⟨t, 0, none⟩ (.int .i64 ((m.used : Int) + (n : Int))) = w1 at *
  have e0 := hm1.c0
  have e1 := hm1.c1
  have g1 := frozen_of_row _ _ 1 _ _ hm1
  rw [Int.natCast_add] at e0
  have HM := Lib.hid hm1
  clear hm1 c0 c1 c2 f0 f1 H
  go_region
  all_goals go_wp2
  all_goals go_returns
  all_goals
    refine ⟨rfl, ?_, grown_drew (grown_set hg1 1 _)⟩
    refine (mt_set HM.out 1 _).trans ?_
    simp [mtCells, mtTake]
    omega
theorem mcells_any (t : Nat) (m : Mt) (w : World) (h : MtAt w t m) : Calls Try.prog 26 #[.pointer (some ⟨t, 0, none⟩)] w fun e w' => e = .returned (.tuple #[.int .i64 (m.used : Int), .int .i64 (m.most : Int), .int .i64 (m.cells : Int)]) ∧ Below w.heap.size w w' := by
  have c0 := h.c0
  have c1 := h.c1
  have c2 := h.c2
  clear h
  go_enter Try.func26, Try.ntmps26
  go_wp2
  go_quiet (fail)
  go_wp2
  go_returns
  exact ⟨rfl, below_drewN (Below.refl _ _) _⟩
def newMt (cells steps : Int) : Mt := ⟨0, 0, (min (max cells 0) 1048576).toNat, 0, (min (max steps 0) 1073741824).toNat, 0⟩
theorem mnew_any (cells steps : Int) (w : World) : Calls Try.prog 25 #[.int .i64 cells, .int .i64 steps] w fun e w' => e = .returned (.pointer (some ⟨w.heap.size, 0, none⟩)) ∧ MtAt w' w.heap.size (newMt cells steps) ∧ Below w.heap.size w w' := by
  go_enter Try.func25, Try.ntmps25
  go_wp2_with fail
  refine (between_any _ _ _).mono ?_
  rintro e w' ⟨rfl, rfl⟩
  go_wp2_with fail
  refine (between_any _ _ _).mono ?_
  rintro e w' ⟨rfl, rfl⟩
  go_wp2
  go_returns
  refine ⟨rfl, ?_, (Below.refl _ _).alloc (Nat.le_refl _) _⟩
  have e1 : ((newMt cells steps).cells : Int) = min (max cells 0) 1048576 := by simp only [newMt]; omega
  have e2 : ((newMt cells steps).steps : Int) = min (max steps 0) 1073741824 := by simp only [newMt]; omega
  unfold MtAt mtCells
  rw [e1, e2]
  exact heap_alloc_new _ _
end Go.Proofs.Ytdjmjdfkblhgdaa
