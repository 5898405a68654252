/- A region is handed out. -/
import Derived.Test.YtdjmjdfkblhgdaaArGap
import Derived.Deep.RegionHeld3
namespace Go.Proofs.Ytdjmjdfkblhgdaa
open Go.RowKit
theorem blk_cell {w w1 : World} {b j : Nat} {v : Value} (hs : w1.heap[b]? = w.heap[b]?) (h : w.cell? ⟨b, j, none⟩ = some v) : w1.cell? ⟨b, j, none⟩ = some v := (World.cell?_of_block (w := w) hs).trans h
theorem regMap_add (rs : List Reg) (id p n : Nat) (h : ∀ r, r ∈ rs → r.id < id) : putK (regMap rs) (id : Int) (.agg #[.int .i64 (p : Int), .int .i64 (n : Int)]) = regMap (rs ++ [⟨id, p, n⟩]) := by
  rw [putK_new]
  · simp [regMap, regVal]
  · rw [lookK_none]
    intro q hq e
    obtain ⟨r, hr, rfl⟩ := List.mem_map.1 hq
    have := h r hr
    simp at e; omega
/-- Behind the stores: the region is there. -/
theorem alloc_fin {w w2 w4 : World} {f : Fp} {S : PA} {p n : Nat} {mt : Option Mt} (hM : Mv f w w2) (ba : w2.heap[f.a]? = some (.cells (arCells f S) 79 (0, 0))) (bc : w2.heap[f.c]? = some (.cells (iCells S.cells) 3 (0, 0)))
    (bt : MtOpt w2 f.t mt) (hne : f.a ≠ f.c ∧ f.m ≠ f.a ∧ f.m ≠ f.c ∧ (∀ t, f.t = some t → t ≠ f.a ∧ t ≠ f.c ∧ t ≠ f.m)) (hlt : f.a < w2.heap.size ∧ f.c < w2.heap.size ∧ ∀ t, f.t = some t → t < w2.heap.size)
    (hid : ∀ r, r ∈ S.regs → r.id ≤ S.last) (hm4 : MapZ (Value.int .i64) w4 f.m (putK (regMap S.regs) ((S.last : Int) + 1) (.agg #[.int .i64 (p : Int), .int .i64 (n : Int)])))
    (hg4 : ((w2.setCell ⟨f.a, 3, none⟩ (.int .i64 ((S.last : Int) + 1))).drew).grownBy w4 (some f.m)) (hwf : WF (addReg S p n mt)) (hn : n ≤ S.left) (hla : S.last + 1 ≤ 1099511627776) :
    ArenaAt (w4.setCell ⟨f.a, 4, none⟩ (.int .i64 ((S.left : Int) - (n : Int)))) f (addReg S p n mt) ∧ Mv f w (w4.setCell ⟨f.a, 4, none⟩ (.int .i64 ((S.left : Int) - (n : Int)))) := by
  have hb3 := heap_setCell_same w2 f.a 3 _ _ (.int .i64 ((S.last : Int) + 1)) ba
  have hsz : ((w2.setCell ⟨f.a, 3, none⟩ (.int .i64 ((S.last : Int) + 1))).drew).heap.size = w2.heap.size := by simp
  have hb4 : w4.heap[f.a]? = _ := (hg4.block f.a (by rw [hsz]; exact hlt.1) (fun e => hne.2.1 (by injection e with e; exact e.symm))).trans hb3
  have hc4 : w4.heap[f.c]? = _ := (hg4.block f.c (by rw [hsz]; exact hlt.2.1) (fun e => hne.2.2.1 (by injection e with e; exact e.symm))).trans ((Below.heap_setCell w2 ⟨f.a, 3, none⟩ _ f.c (fun e => hne.1 e.symm)).trans bc)
  have hb5 := heap_setCell_same w4 f.a 4 _ _ (.int .i64 ((S.left : Int) - (n : Int))) hb4
  refine ⟨⟨?_, (Below.heap_setCell w4 _ _ f.c (fun e => hne.1 e.symm)).trans hc4, ?_, ?_, hwf, hla⟩, ?_⟩
  · rw [hb5]
    simp only [arCells, addReg]
    congr 2
    simp; omega
  · refine MapZ.same ?_ (Below.heap_setCell w4 _ _ f.m hne.2.1)
    have := regMap_add S.regs (S.last + 1) p n (fun r hr => by have := hid r hr; omega)
    rw [Int.natCast_add, show ((1 : Nat) : Int) = 1 from rfl] at this
    rw [this] at hm4
    exact hm4
  · refine bt.same fun b e => ?_
    have h1 := hne.2.2.2 b e
    exact (Below.heap_setCell w4 _ _ b h1.1).trans ((hg4.block b (by rw [hsz]; exact hlt.2.2 b e) (fun e => h1.2.2 (by injection e with e))).trans (Below.heap_setCell w2 ⟨f.a, 3, none⟩ _ b h1.1))
  · refine ⟨hg4.os.trans hM.os, hg4.tape.trans hM.tape, hg4.output.trans hM.output, ?_, fun k hk h1 h2 h3 h4 => ?_⟩
    · have := hg4.size; rw [hsz] at this; have := hM.size; simp; omega
    · have hk2 := Nat.lt_of_lt_of_le hk hM.size
      exact (Below.heap_setCell w4 _ _ k h1).trans ((hg4.block k (by rw [hsz]; exact hk2) (fun e => h3 (by injection e with e))).trans ((Below.heap_setCell w2 ⟨f.a, 3, none⟩ _ k h1).trans (hM.block k hk h1 h2 h3 h4)))
theorem alloc_nil (n : Int) (w : World) : Calls Try.prog 16 #[.pointer none, .int .i64 n] w fun e w' => e = .returned (.tuple #[.int .i64 0, .int .i64 9]) ∧ w = w' := by
  go_enter Try.func16, Try.ntmps16
  go_wp2
  go_returns
  exact ⟨rfl, rfl⟩
theorem alloc_few (a : Nat) (n : Int) (hn : n < 1) (w : World) : Calls Try.prog 16 #[.pointer (some ⟨a, 0, none⟩), .int .i64 n] w fun e w' => e = .returned (.tuple #[.int .i64 0, .int .i64 1]) ∧ w = w' := by
  have d0 : decide (n < 1) = true := by simp [hn]
  clear hn
  go_enter Try.func16, Try.ntmps16
  go_wp2
  go_returns
  exact ⟨rfl, rfl⟩
theorem alloc_full {w : World} {f : Fp} {S : PA} (h : ArenaAt w f S) (n : Int) (hn : 1 ≤ n) (hg : gapOf S n = none) :
    Calls Try.prog 16 #[.pointer (some ⟨f.a, 0, none⟩), .int .i64 n] w fun e w' => e = .returned (.tuple #[.int .i64 0, .int .i64 3]) ∧ Below w.heap.size w w' := by
  have G := Lib.hid (gap_any h n)
  rw [hg] at G
  have d0 : decide (n < 1) = false := by simp; omega
  clear h hg
  go_enter Try.func16, Try.ntmps16
  go_wp2_with fail
  refine G.out.mono ?_
  unfold gapV
  rintro e w1 ⟨rfl, hb⟩
  go_wp2
  go_returns
  exact ⟨rfl, hb⟩
set_option maxRecDepth 100000 in
set_option maxHeartbeats 1000000 in
theorem alloc_free {w : World} {f : Fp} {S : PA} (h : ArenaAt w f S) (n : Nat) (hn : 1 ≤ n) (p : Nat) (hg : gapOf S n = some p) (ht : f.t = none) (hla : S.last + 1 ≤ 1099511627776) :
    Calls Try.prog 16 #[.pointer (some ⟨f.a, 0, none⟩), .int .i64 (n : Int)] w fun e w' => e = .returned (.tuple #[.int .i64 ((S.last : Int) + 1), .int .i64 0]) ∧ ArenaAt w' f (addReg S p n none) ∧ Mv f w w' := by
  have G := Lib.hid (gap_any h n)
  rw [hg] at G
  have d0 : decide ((n : Int) < 1) = false := by simp; omega
  have hmt : S.mt = none := by have := h.bt; rw [ht] at this; cases hm : S.mt with
    | none => rfl
    | some m => rw [hm] at this; exact this.elim
  have hwf : Hid (WF (addReg S p n none)) := by
    obtain ⟨h1, h2, _⟩ := (h.wf.gap n hn).1 p hg
    exact addReg_wf h.wf hn h1 h2 (gap_left h.wf h1 h2) _ (by simp)
  have hnl : n ≤ S.left := by
    obtain ⟨h1, h2, _⟩ := (h.wf.gap n hn).1 p hg
    exact gap_left h.wf h1 h2
  have hsz := h.wf.sz
  have hlf := h.wf.lft
  have hle : Hid (∀ r, r ∈ S.regs → r.id ≤ S.last) := fun r hr => (h.wf.le r hr).2
  have HA := Lib.hid h
  have HT := Lib.hid ht
  clear h hg ht hmt
  go_enter Try.func16, Try.ntmps16
  go_wp2_with fail
  refine G.out.mono ?_
  unfold gapV
  rintro e w1 ⟨rfl, hb⟩
  have H1 := Lib.hid (HA.out.below hb)
  have c0 := H1.out.c0
  rw [HT.out] at c0
  have c0' : w1.cell? ⟨f.a, 0, none⟩ = some (.pointer none) := c0
  clear c0
  have c3 := H1.out.c3
  have f3 := frozen_of_row _ _ 3 _ _ H1.out.ba
  have d1 : decide ((p : Int) < 0) = false := by simp
  go_wp2
  have hB3 := heap_setCell_same w1 f.a 3 _ _ (.int .i64 ((S.last : Int) + 1)) H1.out.ba
  have hne := H1.out.ne
  have hlt := H1.out.lt
  have hmz : MapZ (Value.int .i64) (w1.setCell ⟨f.a, 3, none⟩ (.int .i64 ((S.last : Int) + 1))).drew f.m (regMap S.regs) := H1.out.bm.same (Below.heap_setCell w1 _ _ f.m hne.2.1)
  have FIN := Lib.hid (fun w4 hm4 hg4 => alloc_fin (w4 := w4) (p := p) (n := n) (mt := none) (Mv.of_below f hb) H1.out.ba H1.out.bc (by rw [HT.out]; trivial) hne ⟨hlt.1, hlt.2.1, hlt.2.2.2⟩ hle.out hm4 hg4 hwf.out hnl hla)
  have c2 : (w1.setCell ⟨f.a, 3, none⟩ (.int .i64 ((S.last : Int) + 1))).cell? ⟨f.a, 2, none⟩ = some (.map (some f.m)) := cell_of_row _ _ 2 _ _ _ hB3
  have c3 : (w1.setCell ⟨f.a, 3, none⟩ (.int .i64 ((S.last : Int) + 1))).cell? ⟨f.a, 3, none⟩ = some (.int .i64 ((S.last : Int) + 1)) := cell_of_row _ _ 3 _ _ _ hB3
  have e4 : (w1.setCell ⟨f.a, 3, none⟩ (.int .i64 ((S.last : Int) + 1))).cell? ⟨f.a, 4, none⟩ = some (.int .i64 (S.left : Int)) := cell_of_row _ _ 4 _ _ _ hB3
  have f4 := frozen_of_row _ _ 4 _ _ hB3
  have hla0 := blk_lt hB3
  generalize w1.setCell ⟨f.a, 3, none⟩ (.int .i64 ((S.last : Int) + 1)) = w3 at *
  refine wp_region_noPanic ?_
  refine wp_region_held_drew (S := (fun w' => w'.cell? ⟨f.a, 2, none⟩ = some (.map (some f.m)) ∧ w'.cell? ⟨f.a, 3, none⟩ = some (.int .i64 ((S.last : Int) + 1)))) (by kernel_rfl) (⟨c2, c3⟩) (fun hH => ?_)
  refine wpAnyH_take (i := 0) (oi := ⟨some 41, _, _, _, _, _⟩) (v := .pointer (some ⟨f.a, 0, none⟩)) rfl (by kernel_rfl) (by kernel_rfl) (by kernel_rfl) (fun _ _ _ h => h) (Or.inl ⟨by rfl, fun wq hq => ?_⟩) hH ?_
  · go_simp
  simp only [Act.put, List.setIfInBounds_toArray, List.set_cons_zero, List.set_cons_succ]
  refine wpAnyH_take (i := 1) (oi := ⟨some 42, _, _, _, _, _⟩) (v := .pointer (some ⟨f.a, 0, none⟩)) rfl (by kernel_rfl) (by kernel_rfl) (by kernel_rfl) (fun _ _ _ h => h) (Or.inl ⟨by rfl, fun wq hq => ?_⟩) hH ?_
  · go_simp
  simp only [Act.put, List.setIfInBounds_toArray, List.set_cons_zero, List.set_cons_succ]
  refine wpAnyH_take (i := 2) (oi := ⟨some 43, _, _, _, _, _⟩) (v := .pointer (some ⟨f.a, 2, none⟩)) rfl (by kernel_rfl) (by kernel_rfl) (by kernel_rfl) (fun _ _ _ h => h) (Or.inl ⟨by rfl, fun wq hq => ?_⟩) hH ?_
  · go_simp
  simp only [Act.put, List.setIfInBounds_toArray, List.set_cons_zero, List.set_cons_succ]
  refine wpAnyH_take (i := 3) (oi := ⟨some 44, _, _, _, _, _⟩) (v := .map (some f.m)) rfl (by kernel_rfl) (by kernel_rfl) (by kernel_rfl) (fun _ _ _ h => h) (Or.inl ⟨by rfl, fun wq hq => ?_⟩) hH ?_
  · obtain ⟨q2, q3⟩ := hq; go_simp
  simp only [Act.put, List.setIfInBounds_toArray, List.set_cons_zero, List.set_cons_succ]
  refine wpAnyH_take (i := 4) (oi := ⟨some 45, _, _, _, _, _⟩) (v := .pointer (some ⟨f.a, 0, none⟩)) rfl (by kernel_rfl) (by kernel_rfl) (by kernel_rfl) (fun _ _ _ h => h) (Or.inl ⟨by rfl, fun wq hq => ?_⟩) hH ?_
  · go_simp
  simp only [Act.put, List.setIfInBounds_toArray, List.set_cons_zero, List.set_cons_succ]
  refine wpAnyH_take (i := 5) (oi := ⟨some 46, _, _, _, _, _⟩) (v := .pointer (some ⟨f.a, 0, none⟩)) rfl (by kernel_rfl) (by kernel_rfl) (by kernel_rfl) (fun _ _ _ h => h) (Or.inl ⟨by rfl, fun wq hq => ?_⟩) hH ?_
  · go_simp
  simp only [Act.put, List.setIfInBounds_toArray, List.set_cons_zero, List.set_cons_succ]
  refine wpAnyH_take (i := 6) (oi := ⟨some 47, _, _, _, _, _⟩) (v := .pointer (some ⟨f.a, 3, none⟩)) rfl (by kernel_rfl) (by kernel_rfl) (by kernel_rfl) (fun _ _ _ h => h) (Or.inl ⟨by rfl, fun wq hq => ?_⟩) hH ?_
  · go_simp
  simp only [Act.put, List.setIfInBounds_toArray, List.set_cons_zero, List.set_cons_succ]
  refine wpAnyH_take (i := 7) (oi := ⟨some 48, _, _, _, _, _⟩) (v := .int .i64 ((S.last : Int) + 1)) rfl (by kernel_rfl) (by kernel_rfl) (by kernel_rfl) (fun _ _ _ h => h) (Or.inl ⟨by rfl, fun wq hq => ?_⟩) hH ?_
  · obtain ⟨q2, q3⟩ := hq; go_simp
  simp only [Act.put, List.setIfInBounds_toArray, List.set_cons_zero, List.set_cons_succ]
  refine wpAnyH_take (i := 8) (oi := ⟨some 49, _, _, _, _, _⟩) (v := .int .i64 (p : Int)) rfl (by kernel_rfl) (by kernel_rfl) (by kernel_rfl) (fun _ _ _ h => h) (Or.inl ⟨by rfl, fun wq hq => ?_⟩) hH ?_
  · go_simp
  simp only [Act.put, List.setIfInBounds_toArray, List.set_cons_zero, List.set_cons_succ]
  refine wpAnyH_take (i := 9) (oi := ⟨some 50, _, _, _, _, _⟩) (v := .int .i64 (n : Int)) rfl (by kernel_rfl) (by kernel_rfl) (by kernel_rfl) (fun _ _ _ h => h) (Or.inl ⟨by rfl, fun wq hq => ?_⟩) hH ?_
  · go_simp
  simp only [Act.put, List.setIfInBounds_toArray, List.set_cons_zero, List.set_cons_succ]
  refine wpAnyH_take (i := 10) (oi := ⟨some 51, _, _, _, _, _⟩) (v := .agg #[.int .i64 (p : Int), .int .i64 (n : Int)]) rfl (by kernel_rfl) (by kernel_rfl) (by kernel_rfl) (fun _ _ _ h => h) (Or.inl ⟨by rfl, fun wq hq => ?_⟩) hH ?_
  · go_simp
  simp only [Act.put, List.setIfInBounds_toArray, List.set_cons_zero, List.set_cons_succ]
  refine wpAnyH_ready (rs := [11]) (by kernel_rfl) (by simp) (AllReadyH.cons (o := ⟨none, .mapUpdate 77 (.tmp 44) (.tmp 48) (.tmp 51), _, _, _, _⟩) rfl (fun K hK => ?_) AllReadyH.nil)
  rw [if_pos (by rfl)]
  refine wp_updateZ keysR (.tmp 44) (.tmp 48) (.tmp 51) 77 rfl 82 underR ((S.last : Int) + 1) _ rfl rfl rfl hmz ?_
  intro w4 hm4 hg4 hs4
  refine hK.out _ _ (⟨blk_cell (hg4.block f.a hla0 (fun e => hne.2.1 (by injection e with e; exact e.symm))) c2, blk_cell (hg4.block f.a hla0 (fun e => hne.2.1 (by injection e with e; exact e.symm))) c3⟩) (fun hHn => ?_)
  replace hH := hHn
  clear hK K hHn
  refine wpAnyH_done (by kernel_rfl) ?_ _
  refine NoPanic.normal ?_
  have hs4' := hg4.block f.a hla0 (fun e => hne.2.1 (by injection e with e; exact e.symm))
  have e3 := blk_cell hs4' c3
  have e4' := blk_cell hs4' e4
  have f4' : w4.frozen? ⟨f.a, 4, none⟩ = false := (World.frozen?_of_block (w := w3) hs4').trans f4
  have FF := Lib.hid (FIN.out _ hm4 hg4)
  clear hH c2 c3 e4 f4 hs4' hm4 hg4 hmz hB3
  go_wp2
  go_returns
  exact ⟨rfl, FF.out.1, FF.out.2⟩
theorem ArenaAt.meter {w : World} {f : Fp} {S : PA} (h : ArenaAt w f S) {t : Nat} (ht : f.t = some t) : ∃ m, S.mt = some m ∧ MtAt w t m := by
  have := h.bt
  rw [ht] at this
  cases hm : S.mt with
  | none => rw [hm] at this; exact this.elim
  | some m => rw [hm] at this; exact ⟨m, rfl, this⟩
set_option maxRecDepth 100000 in
set_option maxHeartbeats 1000000 in
theorem alloc_take {w : World} {f : Fp} {S : PA} (h : ArenaAt w f S) (n : Nat) (hn : 1 ≤ n) (p : Nat) (hg : gapOf S n = some p) (t : Nat) (ht : f.t = some t) (m : Mt) (hm : S.mt = some m) (hc : (n : Int) ≤ (m.cells : Int) - (m.used : Int)) (hla : S.last + 1 ≤ 1099511627776) :
    Calls Try.prog 16 #[.pointer (some ⟨f.a, 0, none⟩), .int .i64 (n : Int)] w fun e w' => e = .returned (.tuple #[.int .i64 ((S.last : Int) + 1), .int .i64 0]) ∧ ArenaAt w' f (addReg S p n (some (mtTake m n))) ∧ Mv f w w' := by
  have G := Lib.hid (gap_any h n)
  rw [hg] at G
  have d0 : decide ((n : Int) < 1) = false := by simp; omega
  have hmm := h.wf.mtr m hm
  have hwf : Hid (WF (addReg S p n (some (mtTake m n)))) := by
    obtain ⟨h1, h2, _⟩ := (h.wf.gap n hn).1 p hg
    exact addReg_wf h.wf hn h1 h2 (gap_left h.wf h1 h2) _ (by intro m' e; injection e with e; subst e; exact ⟨by simp [mtTake]; omega, hmm.2⟩)
  have hnl : n ≤ S.left := by
    obtain ⟨h1, h2, _⟩ := (h.wf.gap n hn).1 p hg
    exact gap_left h.wf h1 h2
  have hsz := h.wf.sz
  have hlf := h.wf.lft
  have hle : Hid (∀ r, r ∈ S.regs → r.id ≤ S.last) := fun r hr => (h.wf.le r hr).2
  have hus : m.used ≤ 1099511627776 := by rw [hmm.1]; have := total_le h.wf; omega
  have hcs := hmm.2
  have T := Lib.hid (fun wx (hx : MtAt wx t m) => take_yes n t m wx hx hus (by omega) hc)
  have HA := Lib.hid h
  have HT := Lib.hid ht
  have HM := Lib.hid hm
  clear h hg ht hm hmm
  go_enter Try.func16, Try.ntmps16
  go_wp2_with fail
  refine G.out.mono ?_
  unfold gapV
  rintro e w1 ⟨rfl, hb⟩
  have H1 := Lib.hid (HA.out.below hb)
  have c0 := H1.out.c0
  rw [HT.out] at c0
  have c0' : w1.cell? ⟨f.a, 0, none⟩ = some (.pointer (some ⟨t, 0, none⟩)) := c0
  have hmt1 : MtAt w1 t m := by obtain ⟨m', e1, e2⟩ := H1.out.meter HT.out; rw [HM.out] at e1; injection e1 with e1; subst e1; exact e2
  have HM1 := Lib.hid hmt1
  clear c0 hmt1
  have d1 : decide ((p : Int) < 0) = false := by simp
  go_wp2_with fail
  refine (T.out _ HM1.out).mono ?_
  rintro e w2 ⟨rfl, hmt2, hg2⟩
  have hne := H1.out.ne
  have hlt1 := H1.out.lt
  have hnet := hne.2.2.2 t HT.out
  have sa : w2.heap[f.a]? = w1.heap[f.a]? := hg2.block f.a hlt1.1 (fun e => hnet.1 (by injection e with e; exact e.symm))
  have sc : w2.heap[f.c]? = w1.heap[f.c]? := hg2.block f.c hlt1.2.1 (fun e => hnet.2.1 (by injection e with e; exact e.symm))
  have sm : w2.heap[f.m]? = w1.heap[f.m]? := hg2.block f.m hlt1.2.2.1 (fun e => hnet.2.2 (by injection e with e; exact e.symm))
  have HBA : w2.heap[f.a]? = some (.cells (arCells f S) 79 (0, 0)) := sa.trans H1.out.ba
  have HBC : w2.heap[f.c]? = some (.cells (iCells S.cells) 3 (0, 0)) := sc.trans H1.out.bc
  have HBM : MapZ (Value.int .i64) w2 f.m (regMap S.regs) := H1.out.bm.same sm
  have HBT : MtOpt w2 f.t (some (mtTake m n)) := by rw [HT.out]; exact hmt2
  have hMV : Mv f w w2 := (Mv.of_below f hb).trans (Mv.of_grown f hg2 (.inr (.inr (.inr HT.out))))
  have hlt2 : f.a < w2.heap.size ∧ f.c < w2.heap.size ∧ ∀ b, f.t = some b → b < w2.heap.size := ⟨blk_lt HBA, blk_lt HBC, fun b e => Nat.lt_of_lt_of_le (hlt1.2.2.2 b e) hg2.size⟩
  have c3' : w2.cell? ⟨f.a, 3, none⟩ = some (.int .i64 (S.last : Int)) := cell_of_row _ _ 3 _ _ _ HBA
  have f3 := frozen_of_row _ _ 3 _ _ HBA
  have FIN0 := Lib.hid (fun w4 hm4 hg4 => alloc_fin (w4 := w4) (p := p) (n := n) (mt := some (mtTake m n)) hMV HBA HBC HBT hne hlt2 hle.out hm4 hg4 hwf.out hnl hla)
  have HBAh := Lib.hid HBA
  have HBMh := Lib.hid HBM
  clear sa sc sm HBA HBC HBM HBT hmt2 hg2 hnet c0' hMV hlt1 hlt2
  go_wp2
  have hB3 := heap_setCell_same w2 f.a 3 _ _ (.int .i64 ((S.last : Int) + 1)) HBAh.out
  have hmz : MapZ (Value.int .i64) (w2.setCell ⟨f.a, 3, none⟩ (.int .i64 ((S.last : Int) + 1))).drew f.m (regMap S.regs) := HBMh.out.same (Below.heap_setCell w2 _ _ f.m hne.2.1)
  have FIN := FIN0
  clear FIN0 c3' f3
  have c2 : (w2.setCell ⟨f.a, 3, none⟩ (.int .i64 ((S.last : Int) + 1))).cell? ⟨f.a, 2, none⟩ = some (.map (some f.m)) := cell_of_row _ _ 2 _ _ _ hB3
  have c3 : (w2.setCell ⟨f.a, 3, none⟩ (.int .i64 ((S.last : Int) + 1))).cell? ⟨f.a, 3, none⟩ = some (.int .i64 ((S.last : Int) + 1)) := cell_of_row _ _ 3 _ _ _ hB3
  have e4 : (w2.setCell ⟨f.a, 3, none⟩ (.int .i64 ((S.last : Int) + 1))).cell? ⟨f.a, 4, none⟩ = some (.int .i64 (S.left : Int)) := cell_of_row _ _ 4 _ _ _ hB3
  have f4 := frozen_of_row _ _ 4 _ _ hB3
  have hla0 := blk_lt hB3
  generalize w2.setCell ⟨f.a, 3, none⟩ (.int .i64 ((S.last : Int) + 1)) = w3 at *
  refine wp_region_noPanic ?_
  refine wp_region_held_drew (S := (fun w' => w'.cell? ⟨f.a, 2, none⟩ = some (.map (some f.m)) ∧ w'.cell? ⟨f.a, 3, none⟩ = some (.int .i64 ((S.last : Int) + 1)))) (by kernel_rfl) (⟨c2, c3⟩) (fun hH => ?_)
  refine wpAnyH_take (i := 0) (oi := ⟨some 41, _, _, _, _, _⟩) (v := .pointer (some ⟨f.a, 0, none⟩)) rfl (by kernel_rfl) (by kernel_rfl) (by kernel_rfl) (fun _ _ _ h => h) (Or.inl ⟨by rfl, fun wq hq => ?_⟩) hH ?_
  · go_simp
  simp only [Act.put, List.setIfInBounds_toArray, List.set_cons_zero, List.set_cons_succ]
  refine wpAnyH_take (i := 1) (oi := ⟨some 42, _, _, _, _, _⟩) (v := .pointer (some ⟨f.a, 0, none⟩)) rfl (by kernel_rfl) (by kernel_rfl) (by kernel_rfl) (fun _ _ _ h => h) (Or.inl ⟨by rfl, fun wq hq => ?_⟩) hH ?_
  · go_simp
  simp only [Act.put, List.setIfInBounds_toArray, List.set_cons_zero, List.set_cons_succ]
  refine wpAnyH_take (i := 2) (oi := ⟨some 43, _, _, _, _, _⟩) (v := .pointer (some ⟨f.a, 2, none⟩)) rfl (by kernel_rfl) (by kernel_rfl) (by kernel_rfl) (fun _ _ _ h => h) (Or.inl ⟨by rfl, fun wq hq => ?_⟩) hH ?_
  · go_simp
  simp only [Act.put, List.setIfInBounds_toArray, List.set_cons_zero, List.set_cons_succ]
  refine wpAnyH_take (i := 3) (oi := ⟨some 44, _, _, _, _, _⟩) (v := .map (some f.m)) rfl (by kernel_rfl) (by kernel_rfl) (by kernel_rfl) (fun _ _ _ h => h) (Or.inl ⟨by rfl, fun wq hq => ?_⟩) hH ?_
  · obtain ⟨q2, q3⟩ := hq; go_simp
  simp only [Act.put, List.setIfInBounds_toArray, List.set_cons_zero, List.set_cons_succ]
  refine wpAnyH_take (i := 4) (oi := ⟨some 45, _, _, _, _, _⟩) (v := .pointer (some ⟨f.a, 0, none⟩)) rfl (by kernel_rfl) (by kernel_rfl) (by kernel_rfl) (fun _ _ _ h => h) (Or.inl ⟨by rfl, fun wq hq => ?_⟩) hH ?_
  · go_simp
  simp only [Act.put, List.setIfInBounds_toArray, List.set_cons_zero, List.set_cons_succ]
  refine wpAnyH_take (i := 5) (oi := ⟨some 46, _, _, _, _, _⟩) (v := .pointer (some ⟨f.a, 0, none⟩)) rfl (by kernel_rfl) (by kernel_rfl) (by kernel_rfl) (fun _ _ _ h => h) (Or.inl ⟨by rfl, fun wq hq => ?_⟩) hH ?_
  · go_simp
  simp only [Act.put, List.setIfInBounds_toArray, List.set_cons_zero, List.set_cons_succ]
  refine wpAnyH_take (i := 6) (oi := ⟨some 47, _, _, _, _, _⟩) (v := .pointer (some ⟨f.a, 3, none⟩)) rfl (by kernel_rfl) (by kernel_rfl) (by kernel_rfl) (fun _ _ _ h => h) (Or.inl ⟨by rfl, fun wq hq => ?_⟩) hH ?_
  · go_simp
  simp only [Act.put, List.setIfInBounds_toArray, List.set_cons_zero, List.set_cons_succ]
  refine wpAnyH_take (i := 7) (oi := ⟨some 48, _, _, _, _, _⟩) (v := .int .i64 ((S.last : Int) + 1)) rfl (by kernel_rfl) (by kernel_rfl) (by kernel_rfl) (fun _ _ _ h => h) (Or.inl ⟨by rfl, fun wq hq => ?_⟩) hH ?_
  · obtain ⟨q2, q3⟩ := hq; go_simp
  simp only [Act.put, List.setIfInBounds_toArray, List.set_cons_zero, List.set_cons_succ]
  refine wpAnyH_take (i := 8) (oi := ⟨some 49, _, _, _, _, _⟩) (v := .int .i64 (p : Int)) rfl (by kernel_rfl) (by kernel_rfl) (by kernel_rfl) (fun _ _ _ h => h) (Or.inl ⟨by rfl, fun wq hq => ?_⟩) hH ?_
  · go_simp
  simp only [Act.put, List.setIfInBounds_toArray, List.set_cons_zero, List.set_cons_succ]
  refine wpAnyH_take (i := 9) (oi := ⟨some 50, _, _, _, _, _⟩) (v := .int .i64 (n : Int)) rfl (by kernel_rfl) (by kernel_rfl) (by kernel_rfl) (fun _ _ _ h => h) (Or.inl ⟨by rfl, fun wq hq => ?_⟩) hH ?_
  · go_simp
  simp only [Act.put, List.setIfInBounds_toArray, List.set_cons_zero, List.set_cons_succ]
  refine wpAnyH_take (i := 10) (oi := ⟨some 51, _, _, _, _, _⟩) (v := .agg #[.int .i64 (p : Int), .int .i64 (n : Int)]) rfl (by kernel_rfl) (by kernel_rfl) (by kernel_rfl) (fun _ _ _ h => h) (Or.inl ⟨by rfl, fun wq hq => ?_⟩) hH ?_
  · go_simp
  simp only [Act.put, List.setIfInBounds_toArray, List.set_cons_zero, List.set_cons_succ]
  refine wpAnyH_ready (rs := [11]) (by kernel_rfl) (by simp) (AllReadyH.cons (o := ⟨none, .mapUpdate 77 (.tmp 44) (.tmp 48) (.tmp 51), _, _, _, _⟩) rfl (fun K hK => ?_) AllReadyH.nil)
  rw [if_pos (by rfl)]
  refine wp_updateZ keysR (.tmp 44) (.tmp 48) (.tmp 51) 77 rfl 82 underR ((S.last : Int) + 1) _ rfl rfl rfl hmz ?_
  intro w4 hm4 hg4 hs4
  refine hK.out _ _ (⟨blk_cell (hg4.block f.a hla0 (fun e => hne.2.1 (by injection e with e; exact e.symm))) c2, blk_cell (hg4.block f.a hla0 (fun e => hne.2.1 (by injection e with e; exact e.symm))) c3⟩) (fun hHn => ?_)
  replace hH := hHn
  clear hK K hHn
  refine wpAnyH_done (by kernel_rfl) ?_ _
  refine NoPanic.normal ?_
  have hs4' := hg4.block f.a hla0 (fun e => hne.2.1 (by injection e with e; exact e.symm))
  have e3 := blk_cell hs4' c3
  have e4' := blk_cell hs4' e4
  have f4' : w4.frozen? ⟨f.a, 4, none⟩ = false := (World.frozen?_of_block (w := w3) hs4').trans f4
  have FF := Lib.hid (FIN.out _ hm4 hg4)
  clear hH c2 c3 e4 f4 hs4' hm4 hg4 hmz hB3
  go_wp2
  go_returns
  exact ⟨rfl, FF.out.1, FF.out.2⟩
theorem mv_mt {f : Fp} {w w1 w2 : World} {t : Nat} (hM : Mv f w w1) (hg : w1.grownBy w2 (some t)) (ht : f.t = some t) : Mv f w w2 := hM.trans (Mv.of_grown f hg (.inr (.inr (.inr ht))))
set_option maxHeartbeats 1000000 in
theorem alloc_refuse {w : World} {f : Fp} {S : PA} (h : ArenaAt w f S) (n : Nat) (hn : 1 ≤ n) (p : Nat) (hg : gapOf S n = some p) (t : Nat) (ht : f.t = some t) (m : Mt) (hm : S.mt = some m) (hc : ¬ (n : Int) ≤ (m.cells : Int) - (m.used : Int)) :
    Calls Try.prog 16 #[.pointer (some ⟨f.a, 0, none⟩), .int .i64 (n : Int)] w fun e w' => e = .returned (.tuple #[.int .i64 0, .int .i64 3]) ∧ ArenaAt w' f { S with mt := some (mtRefuse m 3) } ∧ Mv f w w' := by
  have G := Lib.hid (gap_any h n)
  rw [hg] at G
  have d0 : decide ((n : Int) < 1) = false := by simp; omega
  have hmm := h.wf.mtr m hm
  have hsz := h.wf.sz
  have hus : m.used ≤ 1099511627776 := by rw [hmm.1]; have := total_le h.wf; omega
  have hcs := hmm.2
  have T := Lib.hid (fun wx (hx : MtAt wx t m) => take_no n t m wx hx hus (by omega) hc)
  have HA := Lib.hid h
  have HT := Lib.hid ht
  have HM := Lib.hid hm
  have HMM := Lib.hid hmm
  clear h hg ht hm hmm
  go_enter Try.func16, Try.ntmps16
  go_wp2_with fail
  refine G.out.mono ?_
  unfold gapV
  rintro e w1 ⟨rfl, hb⟩
  have H1 := Lib.hid (HA.out.below hb)
  have c0 := H1.out.c0
  rw [HT.out] at c0
  have c0' : w1.cell? ⟨f.a, 0, none⟩ = some (.pointer (some ⟨t, 0, none⟩)) := c0
  have hmt1 : MtAt w1 t m := by obtain ⟨m', e1, e2⟩ := H1.out.meter HT.out; rw [HM.out] at e1; injection e1 with e1; subst e1; exact e2
  have HM1 := Lib.hid hmt1
  clear c0 hmt1
  have d1 : decide ((p : Int) < 0) = false := by simp
  go_wp2_with fail
  refine (T.out _ HM1.out).mono ?_
  rintro e w2 ⟨rfl, hmt2, hg2⟩
  go_wp2
  go_returns
  have hne := H1.out.ne
  have hlt1 := H1.out.lt
  have hnet := hne.2.2.2 t HT.out
  refine ⟨rfl, ⟨?_, ?_, ?_, ?_, ?_, H1.out.la⟩, mv_mt (Mv.of_below f hb) hg2 HT.out⟩
  · exact (hg2.block f.a hlt1.1 (fun e => hnet.1 (by injection e with e; exact e.symm))).trans H1.out.ba
  · exact (hg2.block f.c hlt1.2.1 (fun e => hnet.2.1 (by injection e with e; exact e.symm))).trans H1.out.bc
  · exact H1.out.bm.same (hg2.block f.m hlt1.2.2.1 (fun e => hnet.2.2 (by injection e with e; exact e.symm)))
  · rw [HT.out]; exact hmt2
  · have wf := H1.out.wf
    exact ⟨wf.len, wf.sz, wf.pos, wf.apart, wf.ids, wf.le, wf.lft, wf.zero, by intro m' e; injection e with e; subst e; exact HMM.out⟩
/-- A region is handed out, or refused: just as 'allocP' says. -/
theorem alloc_any {w : World} {f : Fp} {S : PA} (h : ArenaAt w f S) (n : Int) (hla : S.last + 1 ≤ 1099511627776) :
    Calls Try.prog 16 #[.pointer (some ⟨f.a, 0, none⟩), .int .i64 n] w fun e w' => e = .returned (.tuple #[.int .i64 ((allocP S n).1 : Int), .int .i64 ((allocP S n).2.1 : Int)]) ∧ ArenaAt w' f (allocP S n).2.2 ∧ Mv f w w' := by
  by_cases hn : n < 1
  · rw [show allocP S n = (0, 1, S) from if_pos hn]
    exact (alloc_few f.a n hn w).mono fun e w' ⟨he, hw⟩ => by subst hw; exact ⟨he, h, Mv.refl _ _⟩
  · have ea : allocP S n = match gapOf S n with
        | none => (0, 3, S)
        | some p => match S.mt with
          | none => (S.last + 1, 0, addReg S p n.toNat none)
          | some m => if n ≤ (m.cells : Int) - (m.used : Int) then (S.last + 1, 0, addReg S p n.toNat (some (mtTake m n.toNat))) else (0, 3, { S with mt := some (mtRefuse m 3) }) := if_neg hn
    obtain ⟨k, rfl⟩ := Int.eq_ofNat_of_zero_le (show 0 ≤ n by omega)
    rw [Int.toNat_natCast] at ea
    cases hg : gapOf S k with
    | none =>
      rw [hg] at ea; rw [ea]
      exact (alloc_full h k (by omega) hg).mono fun e w' ⟨he, hb⟩ => ⟨he, h.below hb, Mv.of_below f hb⟩
    | some p =>
      rw [hg] at ea
      simp only at ea
      cases ht : f.t with
      | none =>
        have hm : S.mt = none := by have := h.bt; rw [ht] at this; cases hm : S.mt with
          | none => rfl
          | some m => rw [hm] at this; exact this.elim
        rw [hm] at ea; rw [ea]
        exact (alloc_free h k (by omega) p hg ht hla).mono fun e w' ⟨he, h1, h2⟩ => ⟨by rw [he]; rfl, h1, h2⟩
      | some t =>
        obtain ⟨m, hm, _⟩ := h.meter ht
        rw [hm] at ea
        simp only at ea
        by_cases hc : (k : Int) ≤ (m.cells : Int) - (m.used : Int)
        · rw [if_pos hc] at ea; rw [ea]
          exact (alloc_take h k (by omega) p hg t ht m hm hc hla).mono fun e w' ⟨he, h1, h2⟩ => ⟨by rw [he]; rfl, h1, h2⟩
        · rw [if_neg hc] at ea; rw [ea]
          exact alloc_refuse h k (by omega) p hg t ht m hm hc
end Go.Proofs.Ytdjmjdfkblhgdaa
