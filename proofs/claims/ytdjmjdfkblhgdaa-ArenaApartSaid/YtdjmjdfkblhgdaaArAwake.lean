/- The answers that the document fixes are given: awake. -/
import Derived.Test.YtdjmjdfkblhgdaaArClean
namespace Go.Proofs.Ytdjmjdfkblhgdaa
open Go.RowKit
def aw0 : PA := newP 10 (some (newMt 9 0))
def aw1 : PA := (allocP aw0 4).2.2
def aw2 : PA := (allocP aw1 4).2.2
def aw3 : PA := (setP aw2 2 3 7).2
def aw4 : PA := (freeP aw3 1).2
def aw5 : PA := (allocP aw4 5).2.2
def aw6 : PA := (allocP aw5 3).2.2
def aw7 : PA := (allocP aw6 3).2.2
theorem aw0_wf : WF aw0 := newP_wf 10 _ (by intro m h; injection h with h; subst h; decide)
theorem aw6_regs : aw6.regs = [⟨2, 4, 4⟩, ⟨3, 0, 3⟩] := by decide +kernel
theorem aw6_none (hw : WF aw6) : allocP aw6 3 = (0, 3, aw6) := by
  have hr : rowsP aw6.regs = [(0, 3), (4, 4)] := by
    refine (hw.rows_one (l := [(0, 3), (4, 4)]) ?_ ?_).symm
    · rw [aw6_regs]; decide
    · decide
  have hs : aw6.size = 10 := by decide +kernel
  have hg : gapOf aw6 3 = none := by unfold gapOf; rw [hr, hs]; decide
  unfold allocP
  rw [hg]
  rfl
theorem st0 {w : World} {f : Fp} (h : ArenaAt w f aw0) : Calls Try.prog 16 #[.pointer (some ⟨f.a, 0, none⟩), .int .i64 4] w fun e w' => e = .returned (.tuple #[.int .i64 1, .int .i64 0]) ∧ ArenaAt w' f aw1 ∧ Mv f w w' := by
  have := alloc_any h 4 (by decide +kernel)
  rw [show (allocP aw0 4).1 = 1 by decide +kernel, show (allocP aw0 4).2.1 = 0 by decide +kernel] at this
  exact this
theorem st1 {w : World} {f : Fp} (h : ArenaAt w f aw1) : Calls Try.prog 16 #[.pointer (some ⟨f.a, 0, none⟩), .int .i64 4] w fun e w' => e = .returned (.tuple #[.int .i64 2, .int .i64 0]) ∧ ArenaAt w' f aw2 ∧ Mv f w w' := by
  have := alloc_any h 4 (by decide +kernel)
  rw [show (allocP aw1 4).1 = 2 by decide +kernel, show (allocP aw1 4).2.1 = 0 by decide +kernel] at this
  exact this
theorem st2 {w : World} {f : Fp} (h : ArenaAt w f aw2) : Calls Try.prog 17 #[.pointer (some ⟨f.a, 0, none⟩), .int .i64 2, .int .i64 3, .int .i64 7] w fun e w' => e = .returned (.int .i64 0) ∧ ArenaAt w' f aw3 ∧ Mv f w w' := by
  have := set_any h 2 3 7
  rw [show (setP aw2 2 3 7).1 = 0 by decide +kernel] at this
  exact this
theorem st3 {w : World} {f : Fp} (h : ArenaAt w f aw3) : Calls Try.prog 21 #[.pointer (some ⟨f.a, 0, none⟩), .int .i64 2, .int .i64 3] w fun e w' => e = .returned (.tuple #[.int .i64 7, .int .i64 0]) ∧ Below w.heap.size w w' := by
  have := get_any h 2 3
  rw [show (getP aw3 2 3).1 = 7 by decide +kernel, show (getP aw3 2 3).2 = 0 by decide +kernel] at this
  exact this
theorem st4 {w : World} {f : Fp} (h : ArenaAt w f aw3) : Calls Try.prog 18 #[.pointer (some ⟨f.a, 0, none⟩), .int .i64 1] w fun e w' => e = .returned (.int .i64 0) ∧ ArenaAt w' f aw4 ∧ Mv f w w' := by
  have := free_any h 1
  rw [show (freeP aw3 1).1 = 0 by decide +kernel] at this
  exact this
theorem st5 {w : World} {f : Fp} (h : ArenaAt w f aw4) : Calls Try.prog 16 #[.pointer (some ⟨f.a, 0, none⟩), .int .i64 5] w fun e w' => e = .returned (.tuple #[.int .i64 0, .int .i64 3]) ∧ ArenaAt w' f aw5 ∧ Mv f w w' := by
  have := alloc_any h 5 (by decide +kernel)
  rw [show (allocP aw4 5).1 = 0 by decide +kernel, show (allocP aw4 5).2.1 = 3 by decide +kernel] at this
  exact this
theorem st6 {w : World} {f : Fp} (h : ArenaAt w f aw5) : Calls Try.prog 16 #[.pointer (some ⟨f.a, 0, none⟩), .int .i64 3] w fun e w' => e = .returned (.tuple #[.int .i64 3, .int .i64 0]) ∧ ArenaAt w' f aw6 ∧ Mv f w w' := by
  have := alloc_any h 3 (by decide +kernel)
  rw [show (allocP aw5 3).1 = 3 by decide +kernel, show (allocP aw5 3).2.1 = 0 by decide +kernel] at this
  exact this
theorem st7 {w : World} {f : Fp} (h : ArenaAt w f aw6) : Calls Try.prog 16 #[.pointer (some ⟨f.a, 0, none⟩), .int .i64 3] w fun e w' => e = .returned (.tuple #[.int .i64 0, .int .i64 3]) ∧ ArenaAt w' f aw6 ∧ Mv f w w' := by
  have := alloc_any h 3 (by decide +kernel)
  rw [aw6_none h.wf] at this
  exact this
theorem st8 {w : World} {f : Fp} (h : ArenaAt w f aw6) : Calls Try.prog 21 #[.pointer (some ⟨f.a, 0, none⟩), .int .i64 3, .int .i64 0] w fun e w' => e = .returned (.tuple #[.int .i64 0, .int .i64 0]) ∧ Below w.heap.size w w' := by
  have := get_any h 3 0
  rw [show (getP aw6 3 0).1 = 0 by decide +kernel, show (getP aw6 3 0).2 = 0 by decide +kernel] at this
  exact this
theorem st9 {w : World} {f : Fp} (h : ArenaAt w f aw6) : Calls Try.prog 20 #[.pointer (some ⟨f.a, 0, none⟩), .int .i64 3] w fun e w' => e = .returned (.int .i64 0) ∧ Below w.heap.size w w' := by
  have := base_any h 3
  rw [show baseP aw6 3 = 0 by decide +kernel] at this
  exact this
theorem st10 {w : World} {f : Fp} (h : ArenaAt w f aw6) : Calls Try.prog 23 #[.pointer (some ⟨f.a, 0, none⟩), .int .i64 2] w fun e w' => e = .returned (.int .i64 4) ∧ Below w.heap.size w w' := by
  have := len_any h 2
  rw [show lenP aw6 2 = 4 by decide +kernel] at this
  exact this
theorem st11 {w : World} {f : Fp} (h : ArenaAt w f aw6) : Calls Try.prog 23 #[.pointer (some ⟨f.a, 0, none⟩), .int .i64 1] w fun e w' => e = .returned (.int .i64 (-1)) ∧ Below w.heap.size w w' := by
  have := len_any h 1
  rw [show lenP aw6 1 = (-1) by decide +kernel] at this
  exact this
theorem st12 {w : World} {f : Fp} (h : ArenaAt w f aw6) : Calls Try.prog 19 #[.pointer (some ⟨f.a, 0, none⟩)] w fun e w' => e = .returned (.int .i64 3) ∧ w = w' := by
  have := left_any h
  rw [show aw6.left = 3 by decide +kernel] at this
  exact this
theorem st13 {w : World} {f : Fp} (h : ArenaAt w f aw6) : Calls Try.prog 24 #[.pointer (some ⟨f.a, 0, none⟩)] w fun e w' => e = .returned (.bool true) ∧ Below w.heap.size w w' := by
  exact clean_any h
theorem st14 {w : World} {f : Fp} (h : ArenaAt w f aw6) : Calls Try.prog 17 #[.pointer (some ⟨f.a, 0, none⟩), .int .i64 2, .int .i64 4, .int .i64 1] w fun e w' => e = .returned (.int .i64 2) ∧ ArenaAt w' f aw6 ∧ Mv f w w' := by
  have := set_any h 2 4 1
  rw [show (setP aw6 2 4 1).1 = 2 by decide +kernel] at this
  rw [show (setP aw6 2 4 1).2 = aw6 by unfold setP; rw [show cellP aw6 2 4 = (0, 2) by decide +kernel]; rfl] at this
  exact this
set_option maxHeartbeats 4000000 in
theorem awake_any (w : World) : Calls Try.prog 13 #[] w fun e w' => e = .returned (.bool true) ∧ Below w.heap.size w w' := by
  go_enter Try.func13, Try.ntmps13
  go_wp2_with fail
  refine (mnew_any 9 0 w).mono ?_
  rintro e w1 ⟨rfl, hmt, hb1⟩
  have NEW := Lib.hid (new_any 10 (by decide) (some w.heap.size) (some (newMt 9 0)) w1 hmt (by intro m h; injection h with h; subst h; decide))
  clear hmt
  go_wp2_with fail
  refine NEW.out.mono ?_
  rintro e w2 ⟨f, rfl, hA, hft, hfa, hfc, hfm, hb2⟩
  have hq := eqlA f.a w2
  have M0 := Lib.hid (Mv.refl f w2)
  have A0 := Lib.hid (show ArenaAt w2 f aw0 from hA)
  have FR := Lib.hid (show f.from w.heap.size from ⟨Nat.le_trans hb1.size hfa, Nat.le_trans hb1.size hfc, Nat.le_trans hb1.size hfm, fun t e => by rw [hft] at e; injection e with e; omega⟩)
  have HB := Lib.hid (below_all hb1 hb2)
  clear hA hft hfa hfc hfm hb1 hb2 NEW
  go_wp2_with fail
  refine (st0 A0.out).mono ?_
  rintro e w3 ⟨rfl, hA, hM⟩
  have A1 := Lib.hid hA
  have M1 := Lib.hid (M0.out.trans hM)
  clear hA hM A0 M0
  clear hq
  go_wp2_with fail
  refine (st1 A1.out).mono ?_
  rintro e w4 ⟨rfl, hA, hM⟩
  have A2 := Lib.hid hA
  have M2 := Lib.hid (M1.out.trans hM)
  clear hA hM A1 M1
  go_wp2_with fail
  refine (st2 A2.out).mono ?_
  rintro e w5 ⟨rfl, hA, hM⟩
  have A3 := Lib.hid hA
  have M3 := Lib.hid (M2.out.trans hM)
  clear hA hM A2 M2
  go_wp2_with fail
  refine (st3 A3.out).mono ?_
  rintro e w6 ⟨rfl, hb⟩
  have A4 := Lib.hid (A3.out.below hb)
  have M4 := Lib.hid (M3.out.trans (Mv.of_below f hb))
  clear hb A3 M3
  go_wp2_with fail
  refine (st4 A4.out).mono ?_
  rintro e w7 ⟨rfl, hA, hM⟩
  have A5 := Lib.hid hA
  have M5 := Lib.hid (M4.out.trans hM)
  clear hA hM A4 M4
  go_wp2_with fail
  refine (st5 A5.out).mono ?_
  rintro e w8 ⟨rfl, hA, hM⟩
  have A6 := Lib.hid hA
  have M6 := Lib.hid (M5.out.trans hM)
  clear hA hM A5 M5
  go_wp2_with fail
  refine (st6 A6.out).mono ?_
  rintro e w9 ⟨rfl, hA, hM⟩
  have A7 := Lib.hid hA
  have M7 := Lib.hid (M6.out.trans hM)
  clear hA hM A6 M6
  go_wp2_with fail
  refine (st7 A7.out).mono ?_
  rintro e w10 ⟨rfl, hA, hM⟩
  have A8 := Lib.hid hA
  have M8 := Lib.hid (M7.out.trans hM)
  clear hA hM A7 M7
  go_wp2_with fail
  refine (st8 A8.out).mono ?_
  rintro e w11 ⟨rfl, hb⟩
  have A9 := Lib.hid (A8.out.below hb)
  have M9 := Lib.hid (M8.out.trans (Mv.of_below f hb))
  clear hb A8 M8
  go_wp2_with fail
  refine (st9 A9.out).mono ?_
  rintro e w12 ⟨rfl, hb⟩
  have A10 := Lib.hid (A9.out.below hb)
  have M10 := Lib.hid (M9.out.trans (Mv.of_below f hb))
  clear hb A9 M9
  go_wp2_with fail
  refine (st10 A10.out).mono ?_
  rintro e w13 ⟨rfl, hb⟩
  have A11 := Lib.hid (A10.out.below hb)
  have M11 := Lib.hid (M10.out.trans (Mv.of_below f hb))
  clear hb A10 M10
  go_wp2_with fail
  refine (st11 A11.out).mono ?_
  rintro e w14 ⟨rfl, hb⟩
  have A12 := Lib.hid (A11.out.below hb)
  have M12 := Lib.hid (M11.out.trans (Mv.of_below f hb))
  clear hb A11 M11
  go_wp2_with fail
  refine (st12 A12.out).mono ?_
  rintro e _ ⟨rfl, rfl⟩
  go_wp2_with fail
  refine (st13 A12.out).mono ?_
  rintro e w16 ⟨rfl, hb⟩
  have A14 := Lib.hid (A12.out.below hb)
  have M14 := Lib.hid (M12.out.trans (Mv.of_below f hb))
  clear hb A12 M12
  go_wp2_with fail
  refine (st14 A14.out).mono ?_
  rintro e w17 ⟨rfl, hA, hM⟩
  have A15 := Lib.hid hA
  have M15 := Lib.hid (M14.out.trans hM)
  clear hA hM A14 M14
  go_wp2
  go_returns
  exact ⟨rfl, M15.out.below FR.out HB.out HB.out.size⟩
end Go.Proofs.Ytdjmjdfkblhgdaa
