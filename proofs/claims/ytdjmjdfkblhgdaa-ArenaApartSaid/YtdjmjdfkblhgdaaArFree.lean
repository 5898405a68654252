/- A region is taken back. -/
import Derived.Test.YtdjmjdfkblhgdaaArAlloc
import Derived.Lib.SliceRun
import Derived.RegionTactic
namespace Go.Proofs.Ytdjmjdfkblhgdaa
open Go.RowKit
def setMany : Array Value → Nat → List Value → Array Value
  | cs, _, [] => cs
  | cs, o, v :: r => setMany (cs.setIfInBounds o v) (o + 1) r
theorem heap_setCells_same (b : Nat) (ty : TypeId) : ∀ (vs : List Value) (o : Nat) (w : World) (cs : Array Value), w.heap[b]? = some (.cells cs ty (0, 0)) → (w.setCells b o vs).heap[b]? = some (.cells (setMany cs o vs) ty (0, 0))
  | [], _, _, _, h => h
  | v :: r, o, w, cs, h => heap_setCells_same b ty r (o + 1) _ _ (heap_setCell_same w b o cs ty v h)
theorem grown_setCells (b : Nat) : ∀ (vs : List Value) (o : Nat) (w : World), w.grownBy (w.setCells b o vs) (some b) ∧ (w.setCells b o vs).heap.size = w.heap.size
  | [], _, w => ⟨⟨rfl, rfl, rfl, Nat.le_refl _, fun _ _ _ => rfl⟩, rfl⟩
  | v :: r, o, w => by
    have h1 := grown_set (w := w) (w1 := w) (t := b) ⟨rfl, rfl, rfl, Nat.le_refl _, fun _ _ _ => rfl⟩ o v
    have h2 := grown_setCells b r (o + 1) (w.setCell ⟨b, o, none⟩ v)
    have hs : (w.setCell ⟨b, o, none⟩ v).heap.size = w.heap.size := World.size_setCell ..
    exact ⟨grown_seq h1 h2.1, h2.2.trans hs⟩
theorem setMany_zero : ∀ (n o : Nat) (l : List Int), o + n ≤ l.length → setMany (iCells l) o (List.replicate n (.int .i64 0)) = iCells (clearP l o n)
  | 0, o, l, h => by simp [setMany, clearP]
  | n + 1, o, l, h => by
    rw [List.replicate_succ]
    show setMany ((iCells l).setIfInBounds o (.int .i64 0)) (o + 1) _ = _
    rw [iCells_set, setMany_zero n (o + 1) (l.set o 0) (by simp; omega)]
    congr 1
    apply List.ext_getElem?
    intro i
    rw [getElem?_clearP _ _ _ _ (by simp; omega), getElem?_clearP _ _ _ _ h, List.getElem?_set]
    by_cases h1 : o + 1 ≤ i ∧ i < o + 1 + n
    · rw [if_pos h1, if_pos (by omega)]
    · rw [if_neg h1]
      by_cases h2 : o = i
      · subst h2; rw [if_pos rfl, if_pos (by omega), if_pos (by omega)]
      · rw [if_neg h2, if_neg (by omega)]
theorem wp_clear {P : Program} {o : Oper} {a : Act} {w : World} {K : Act → World → Prop} {Q : Exit → Act → World → Prop} (x : Operand) (T e : TypeId) (z : Value)
    (ho : o.op = .call { callee := .builtin .clear, args := #[x], argTypes := #[T] }) (hT : P.underlying T = some (.slice e)) (hv : ∀ w, (zeroValue e).run P w = .ok z w) (hz : z.cells = #[z]) (h1 : z.oneCell' = true)
    (b off n c : Nat) (hx : a.eval x = .slice (some ⟨b, off, none⟩) n c) (cs : Array Value) (ty : TypeId) (hb : w.heap[b]? = some (.cells cs ty (0, 0))) (hoff : off + n ≤ cs.size) (hn : 0 < n)
    (h : ∀ w', w'.heap[b]? = some (.cells (setMany cs off (List.replicate n z)) ty (0, 0)) → w.grownBy w' (some b) → w'.heap.size = w.heap.size → K (a.put o.dst (.tuple #[])) w') : Oper.wp P o a w K Q := by
  have hrun := Lib.run_clear_slice (P := P) w T e o.type z hT hv hz h1 b off n c hn (fun j hj => by rw [cell_of_row _ _ _ _ _ _ hb]; simp; omega) (fun j hj => frozen_of_row _ _ _ _ _ hb)
  unfold Oper.wp execOp
  simp only [ho, resolve, invoke, builtin, Sem.run_bind, Sem.run_pure, Result.andThen_ok, List.map_toArray, List.map_cons, List.map_nil, hx, hrun]
  exact h _ (heap_setCells_same b ty _ _ _ _ hb) (grown_setCells b _ _ _).1 (grown_setCells b _ _ _).2
theorem wp_call {P : Program} {w : World} {o : Oper} {a : Act} {K : Act → World → Prop} {Q : Exit → Act → World → Prop} (f : FuncId) (xs : Array Operand) (ats : Array TypeId)
    (ho : o.op = .call { callee := .value (.func f), args := xs, argTypes := ats }) (vals : Array Value) (hv : xs.map a.eval = vals) {R : Value → World → Prop}
    (hrun : (callFunc f vals).run P w = .ok (.enter f vals) w) (hc : Calls P f vals w fun e w' => ∃ v, e = .returned v ∧ R v w')
    (h : ∀ v w', R v w' → K (a.put o.dst v) w') : Oper.wp P o a w K Q := by
  obtain ⟨dst, op, ty, pos, aft, gd⟩ := o
  simp only at ho
  subst ho
  unfold Oper.wp
  rw [execOp_call_go, hv]
  have e : (#[] ++ vals ++ #[] : Array Value) = vals := by simp
  rw [e, hrun, Oper.upon_enter]
  refine hc.mono ?_
  rintro e w' ⟨v, rfl, hr⟩
  exact h v w' hr
def giveM (n : Nat) (m : Option Mt) : Option Mt := m.map fun m => { m with used := m.used - n }
theorem give_opt (n : Nat) (t : Option Nat) (m : Option Mt) (w : World) (h : MtOpt w t m) (hm : ∀ x, m = some x → n ≤ x.used ∧ x.used ≤ 1099511627776) :
    Calls Try.prog 50 #[.pointer (tAddr t), .int .i64 (n : Int)] w fun e w' => ∃ v, e = .returned v ∧ (MtOpt w' t (giveM n m) ∧ w.grownBy w' t) := by
  cases t with
  | none =>
    cases m with
    | none => exact (give_nil n w).mono fun e w' ⟨he, hw⟩ => by subst hw; exact ⟨_, he, trivial, ⟨rfl, rfl, rfl, Nat.le_refl _, fun _ _ _ => rfl⟩⟩
    | some m => exact h.elim
  | some t =>
    cases m with
    | none => exact h.elim
    | some m => exact (give_any n t m w h (hm m rfl).1 (hm m rfl).2).mono fun e w' ⟨he, h1, h2⟩ => ⟨_, he, h1, h2⟩
theorem free_none {w : World} {f : Fp} {S : PA} (h : ArenaAt w f S) (id : Int) (hf : findP S id = none) :
    Calls Try.prog 18 #[.pointer (some ⟨f.a, 0, none⟩), .int .i64 id] w fun e w' => e = .returned (.int .i64 7) ∧ Below w.heap.size w w' := by
  have F := Lib.hid (find_none h id hf)
  clear h hf
  go_enter Try.func18, Try.ntmps18
  go_wp2_with fail
  refine F.out.mono ?_
  rintro e w1 ⟨rfl, hb⟩
  go_wp2
  go_returns
  exact ⟨rfl, hb.alloc hb.size _⟩
theorem free_nil (id : Int) (w : World) : Calls Try.prog 18 #[.pointer none, .int .i64 id] w fun e w' => e = .returned (.int .i64 9) ∧ Below w.heap.size w w' := by
  go_enter Try.func18, Try.ntmps18
  go_wp2_with fail
  refine (find_nil id w).mono ?_
  rintro e w1 ⟨rfl, hb⟩
  go_wp2
  go_returns
  exact ⟨rfl, hb.alloc hb.size _⟩
theorem delK_regs {rs : List Reg} (r : Reg) : delK (regMap rs) (r.id : Int) = regMap (rs.filter fun x => x.id ≠ r.id) := by
  unfold delK regMap
  rw [List.filter_map]
  congr 1
  apply List.filter_congr
  intro x _
  simp [Function.comp]
  omega
theorem zeroI (w : World) : (zeroValue 3).run Try.prog w = .ok (.int .i64 0) w := by kernel_rfl
/-- The arena behind a region that went. -/
theorem free_fin {w w5 w6 : World} {f : Fp} {S : PA} {r : Reg} (hne : f.a ≠ f.c ∧ f.a ≠ f.m ∧ f.c ≠ f.m ∧ ∀ t, f.t = some t → t ≠ f.a ∧ t ≠ f.c ∧ t ≠ f.m)
    (hwf : WF (freeReg S r)) (hla : S.last ≤ 1099511627776) (hM : Mv f w w5)
    (ha : w5.heap[f.a]? = some (.cells (arCells f (freeReg S r)) 79 (0, 0))) (hc : w5.heap[f.c]? = some (.cells (iCells (clearP S.cells r.base r.n)) 3 (0, 0)))
    (hm : MapZ (Value.int .i64) w5 f.m (regMap (S.regs.filter fun x => x.id ≠ r.id))) (ht : MtOpt w6 f.t (giveM r.n S.mt)) (hg : w5.grownBy w6 f.t) : ArenaAt w6 f (freeReg S r) ∧ Mv f w w6 := by
  have n1 : some f.a ≠ f.t := fun e => (hne.2.2.2 _ e.symm).1 rfl
  have n2 : some f.c ≠ f.t := fun e => (hne.2.2.2 _ e.symm).2.1 rfl
  have n3 : some f.m ≠ f.t := fun e => (hne.2.2.2 _ e.symm).2.2 rfl
  refine ⟨⟨(hg.block _ (blk_lt ha) n1).trans ha, (hg.block _ (blk_lt hc) n2).trans hc, hm.same (hg.block _ hm.lt n3), ht, hwf, hla⟩, hM.trans ?_⟩
  exact ⟨hg.os, hg.tape, hg.output, hg.size, fun k hk _ _ _ h => hg.block k hk (fun e => h e.symm)⟩
set_option maxRecDepth 100000 in
set_option maxHeartbeats 2000000 in
theorem free_some {w : World} {f : Fp} {S : PA} (h : ArenaAt w f S) (id : Int) (r : Reg) (hf : findP S id = some r) :
    Calls Try.prog 18 #[.pointer (some ⟨f.a, 0, none⟩), .int .i64 id] w fun e w' => e = .returned (.int .i64 0) ∧ ArenaAt w' f (freeReg S r) ∧ Mv f w w' := by
  have F := Lib.hid (find_some h id r hf)
  have hr := findP_mem hf
  obtain ⟨hrm, hid⟩ := hr
  subst hid
  have HA := Lib.hid h
  have hp := h.wf.pos r hrm
  have hsz := h.wf.sz
  have hlen := h.wf.len
  have hlft := h.wf.lft
  have htot := total_filter h.wf.ids hrm
  have hwf : Hid (WF (freeReg S r)) := freeReg_wf h.wf hrm
  have hne : Hid (f.a ≠ f.c ∧ f.a ≠ f.m ∧ f.c ≠ f.m ∧ ∀ t, f.t = some t → t ≠ f.a ∧ t ≠ f.c ∧ t ≠ f.m) := ⟨h.ne.1, h.ne.2.1.symm, h.ne.2.2.1.symm, h.ne.2.2.2⟩
  have hu : Hid (∀ x, S.mt = some x → r.n ≤ x.used ∧ x.used ≤ 1099511627776) := fun x e => by have := h.wf.mtr x e; have := total_le h.wf; omega
  have hla : Hid (S.last ≤ 1099511627776) := h.la
  have hwr : Hid (IntKind.i64.wrap ((r.base : Int) + (r.n : Int)) = (r.base : Int) + (r.n : Int)) := IntWalk.i64_in _ (by omega)
  clear h hf
  go_enter Try.func18, Try.ntmps18
  go_wp2_with fail
  refine F.out.mono ?_
  unfold regVal
  rintro e w1 ⟨rfl, hb⟩
  go_wp2
  have hb2 := hb.alloc hb.size (.cells #[.int .i64 (r.base : Int), .int .i64 (r.n : Int)] 82)
  have H2 := Lib.hid (HA.out.below hb2)
  have hL := heap_alloc_new w1 (.cells #[.int .i64 (r.base : Int), .int .i64 (r.n : Int)] 82)
  have hlt := H2.out.lt
  have hltw := HA.out.lt
  have hLa : f.a ≠ w1.heap.size := by have := hb.size; omega
  have hLc : f.c ≠ w1.heap.size := by have := hb.size; omega
  have hLm : f.m ≠ w1.heap.size := by have := hb.size; omega
  have hLt : ∀ t, f.t = some t → t ≠ w1.heap.size := fun t e => by have := hltw.2.2.2 t e; have := hb.size; omega
  have HL := Lib.hid hL
  have HLt := Lib.hid hLt
  have hMV := Lib.hid (Mv.of_below f hb2)
  clear hb2 hL hlt hltw hLt
  generalize hgw : w1.alloc (.cells #[.int .i64 (r.base : Int), .int .i64 (r.n : Int)] 82) = w2 at *
  generalize w1.heap.size = L at *
  clear hgw hb
  have c1 := H2.out.c1
  have l0 : w2.cell? ⟨L, 0, none⟩ = some (.int .i64 (r.base : Int)) := cell_of_row _ _ 0 _ _ _ HL.out
  have l1 : w2.cell? ⟨L, 1, none⟩ = some (.int .i64 (r.n : Int)) := cell_of_row _ _ 1 _ _ _ HL.out
  refine wp_region_noPanic ?_
  refine wp_region_held_drew (S := (fun w' => w'.cell? ⟨f.a, 1, none⟩ = some (.slice (some ⟨f.c, 0, none⟩) S.size S.size) ∧ w'.cell? ⟨L, 0, none⟩ = some (.int .i64 (r.base : Int)) ∧ w'.cell? ⟨L, 1, none⟩ = some (.int .i64 (r.n : Int)))) (by kernel_rfl) (⟨c1, l0, l1⟩) (fun hH => ?_)
  refine wpAnyH_take (i := 0) (oi := ⟨some 16, _, _, _, _, _⟩) (v := .pointer (some ⟨f.a, 0, none⟩)) rfl (by kernel_rfl) (by kernel_rfl) (by kernel_rfl) (fun _ _ _ h => h) (Or.inl ⟨by rfl, fun wq hq => ?_⟩) hH ?_
  · go_simp
  simp only [Act.put, List.setIfInBounds_toArray, List.set_cons_zero, List.set_cons_succ]
  refine wpAnyH_take (i := 1) (oi := ⟨some 17, _, _, _, _, _⟩) (v := .pointer (some ⟨f.a, 0, none⟩)) rfl (by kernel_rfl) (by kernel_rfl) (by kernel_rfl) (fun _ _ _ h => h) (Or.inl ⟨by rfl, fun wq hq => ?_⟩) hH ?_
  · go_simp
  simp only [Act.put, List.setIfInBounds_toArray, List.set_cons_zero, List.set_cons_succ]
  refine wpAnyH_take (i := 2) (oi := ⟨some 18, _, _, _, _, _⟩) (v := .pointer (some ⟨f.a, 1, none⟩)) rfl (by kernel_rfl) (by kernel_rfl) (by kernel_rfl) (fun _ _ _ h => h) (Or.inl ⟨by rfl, fun wq hq => ?_⟩) hH ?_
  · go_simp
  simp only [Act.put, List.setIfInBounds_toArray, List.set_cons_zero, List.set_cons_succ]
  refine wpAnyH_take (i := 3) (oi := ⟨some 19, _, _, _, _, _⟩) (v := .slice (some ⟨f.c, 0, none⟩) S.size S.size) rfl (by kernel_rfl) (by kernel_rfl) (by kernel_rfl) (fun _ _ _ h => h) (Or.inl ⟨by rfl, fun wq hq => ?_⟩) hH ?_
  · obtain ⟨q1, q2, q3⟩ := hq; go_simp
  simp only [Act.put, List.setIfInBounds_toArray, List.set_cons_zero, List.set_cons_succ]
  refine wpAnyH_take (i := 4) (oi := ⟨some 20, _, _, _, _, _⟩) (v := .pointer (some ⟨L, 0, none⟩)) rfl (by kernel_rfl) (by kernel_rfl) (by kernel_rfl) (fun _ _ _ h => h) (Or.inl ⟨by rfl, fun wq hq => ?_⟩) hH ?_
  · go_simp
  simp only [Act.put, List.setIfInBounds_toArray, List.set_cons_zero, List.set_cons_succ]
  refine wpAnyH_take (i := 5) (oi := ⟨some 21, _, _, _, _, _⟩) (v := .int .i64 (r.base : Int)) rfl (by kernel_rfl) (by kernel_rfl) (by kernel_rfl) (fun _ _ _ h => h) (Or.inl ⟨by rfl, fun wq hq => ?_⟩) hH ?_
  · obtain ⟨q1, q2, q3⟩ := hq; go_simp
  simp only [Act.put, List.setIfInBounds_toArray, List.set_cons_zero, List.set_cons_succ]
  refine wpAnyH_take (i := 6) (oi := ⟨some 22, _, _, _, _, _⟩) (v := .pointer (some ⟨L, 0, none⟩)) rfl (by kernel_rfl) (by kernel_rfl) (by kernel_rfl) (fun _ _ _ h => h) (Or.inl ⟨by rfl, fun wq hq => ?_⟩) hH ?_
  · go_simp
  simp only [Act.put, List.setIfInBounds_toArray, List.set_cons_zero, List.set_cons_succ]
  refine wpAnyH_take (i := 7) (oi := ⟨some 23, _, _, _, _, _⟩) (v := .int .i64 (r.base : Int)) rfl (by kernel_rfl) (by kernel_rfl) (by kernel_rfl) (fun _ _ _ h => h) (Or.inl ⟨by rfl, fun wq hq => ?_⟩) hH ?_
  · obtain ⟨q1, q2, q3⟩ := hq; go_simp
  simp only [Act.put, List.setIfInBounds_toArray, List.set_cons_zero, List.set_cons_succ]
  refine wpAnyH_take (i := 8) (oi := ⟨some 24, _, _, _, _, _⟩) (v := .pointer (some ⟨L, 1, none⟩)) rfl (by kernel_rfl) (by kernel_rfl) (by kernel_rfl) (fun _ _ _ h => h) (Or.inl ⟨by rfl, fun wq hq => ?_⟩) hH ?_
  · go_simp
  simp only [Act.put, List.setIfInBounds_toArray, List.set_cons_zero, List.set_cons_succ]
  refine wpAnyH_take (i := 9) (oi := ⟨some 25, _, _, _, _, _⟩) (v := .int .i64 (r.n : Int)) rfl (by kernel_rfl) (by kernel_rfl) (by kernel_rfl) (fun _ _ _ h => h) (Or.inl ⟨by rfl, fun wq hq => ?_⟩) hH ?_
  · obtain ⟨q1, q2, q3⟩ := hq; go_simp
  simp only [Act.put, List.setIfInBounds_toArray, List.set_cons_zero, List.set_cons_succ]
  refine wpAnyH_take (i := 10) (oi := ⟨some 26, _, _, _, _, _⟩) (v := .int .i64 ((r.base : Int) + (r.n : Int))) rfl (by kernel_rfl) (by kernel_rfl) (by kernel_rfl) (fun _ _ _ h => h) (Or.inl ⟨by rfl, fun wq hq => ?_⟩) hH ?_
  · go_simp; exact hwr.out
  simp only [Act.put, List.setIfInBounds_toArray, List.set_cons_zero, List.set_cons_succ]
  refine wpAnyH_take (i := 11) (oi := ⟨some 27, _, _, _, _, _⟩) (v := .slice (some ⟨f.c, r.base, none⟩) r.n (S.size - r.base)) rfl (by kernel_rfl) (by kernel_rfl) (by kernel_rfl) (fun _ _ _ h => h) (Or.inl ⟨by rfl, fun wq hq => ?_⟩) hH ?_
  · go_simp; rw [if_pos ⟨by omega, by omega⟩, if_pos (by omega), if_neg (by omega), show ((r.base : Int) + (r.n : Int)).toNat - r.base = r.n by omega]
  simp only [Act.put, List.setIfInBounds_toArray, List.set_cons_zero, List.set_cons_succ]
  refine wpAnyH_ready (rs := [12]) (by kernel_rfl) (by simp) (AllReadyH.cons (o := ⟨none, .call { callee := .builtin .clear, args := #[.tmp 27], argTypes := #[41] }, _, _, _, _⟩) rfl (fun K hK => ?_) AllReadyH.nil)
  rw [if_pos (by rfl)]
  refine wp_clear (.tmp 27) 41 3 (.int .i64 0) rfl (by kernel_rfl) zeroI rfl rfl f.c r.base r.n (S.size - r.base) rfl (iCells S.cells) 3 H2.out.bc (by rw [iCells_size]; omega) (by omega) ?_
  intro w3 hc3 hg3 hs3
  rw [setMany_zero _ _ _ (by omega)] at hc3
  have sa3 : w3.heap[f.a]? = w2.heap[f.a]? := hg3.block f.a H2.out.lt.1 (fun e => hne.out.1 (by injection e))
  have sL3 : w3.heap[L]? = w2.heap[L]? := hg3.block L (blk_lt HL.out) (fun e => hLc (by injection e with e; exact e.symm))
  refine hK.out _ _ (⟨blk_cell sa3 c1, blk_cell sL3 l0, blk_cell sL3 l1⟩) (fun hHn => ?_)
  replace hH := hHn
  clear hK K hHn
  refine wpAnyH_done (by kernel_rfl) ?_ _
  refine NoPanic.normal ?_
  have HBA3 := Lib.hid (sa3.trans H2.out.ba)
  have HL3 := Lib.hid (sL3.trans HL.out)
  have HBC3 := Lib.hid hc3
  have HBM3 : Hid (MapZ (Value.int .i64) w3 f.m (regMap S.regs)) := H2.out.bm.same (hg3.block f.m H2.out.lt.2.2.1 (fun e => hne.out.2.2.1 (by injection e with e; exact e.symm)))
  have HBT3 : Hid (MtOpt w3 f.t S.mt) := H2.out.bt.same fun b e => hg3.block b (H2.out.lt.2.2.2 b e) (fun e' => (hne.out.2.2.2 b e).2.1 (by injection e'))
  have HT3 : Hid (∀ b, f.t = some b → b < w3.heap.size) := fun b e => Nat.lt_of_lt_of_le (H2.out.lt.2.2.2 b e) hg3.size
  have hMV3 : Hid (Mv f w w3) := hMV.out.trans (Mv.of_grown f ⟨hg3.os, hg3.tape, hg3.output, hg3.size, hg3.block⟩ (.inr (.inl rfl)))
  clear hH c1 l0 l1 sa3 sL3 hc3 hg3 hs3 H2 HL hMV
  have c2 : w3.cell? ⟨f.a, 2, none⟩ = some (.map (some f.m)) := cell_of_row _ _ 2 _ _ _ HBA3.out
  go_wp2_with (refine wpList_deleteZ keysR rfl _ _ 77 rfl 82 underR (r.id : Int) rfl rfl HBM3.out ?_; intro w4 hm4 hg4 hs4)
  have sa4 : w4.heap[f.a]? = w3.heap[f.a]? := hg4.block f.a (blk_lt HBA3.out) (fun e => hne.out.2.1 (by injection e))
  have HBA4 := Lib.hid (sa4.trans HBA3.out)
  have HL4 := Lib.hid ((hg4.block L (blk_lt HL3.out) (fun e => hLm (by injection e with e; exact e.symm))).trans HL3.out)
  have HBC4 := Lib.hid ((hg4.block f.c (blk_lt HBC3.out) (fun e => hne.out.2.2.1 (by injection e))).trans HBC3.out)
  have HBM4 := Lib.hid hm4
  have HBT4 : Hid (MtOpt w4 f.t S.mt) := HBT3.out.same fun b e => hg4.block b (HT3.out b e) (fun e' => (hne.out.2.2.2 b e).2.2 (by injection e'))
  have hMV4 : Hid (Mv f w w4) := hMV3.out.trans (Mv.of_grown f hg4 (.inr (.inr (.inl rfl))))
  clear hm4 hg4 hs4 sa4 HBA3 HL3 HBC3 HBM3 HBT3 hMV3 HT3 c2
  have e4 : w4.cell? ⟨f.a, 4, none⟩ = some (.int .i64 (S.left : Int)) := cell_of_row _ _ 4 _ _ _ HBA4.out
  have f4 := frozen_of_row _ _ 4 _ _ HBA4.out
  have l1 : w4.cell? ⟨L, 1, none⟩ = some (.int .i64 (r.n : Int)) := cell_of_row _ _ 1 _ _ _ HL4.out
  have hwl : IntKind.i64.wrap ((S.left : Int) + (r.n : Int)) = (S.left : Int) + (r.n : Int) := IntWalk.i64_in _ (by omega)
  go_wp2
  simp only [Act.put]
  have e4d := e4
  go_region
  have B5 := heap_setCell_same w4 f.a 4 _ _ (.int .i64 ((S.left : Int) + (r.n : Int))) HBA4.out
  have HBA5 : Hid ((w4.setCell ⟨f.a, 4, none⟩ (.int .i64 ((S.left : Int) + (r.n : Int)))).drew.heap[f.a]? = some (.cells (arCells f (freeReg S r)) 79 (0, 0))) := B5
  have HL5 : Hid ((w4.setCell ⟨f.a, 4, none⟩ (.int .i64 ((S.left : Int) + (r.n : Int)))).drew.heap[L]? = some (.cells #[.int .i64 (r.base : Int), .int .i64 (r.n : Int)] 82 (0, 0))) := (Below.heap_setCell w4 _ _ L hLa.symm).trans HL4.out
  have HBC5 : Hid ((w4.setCell ⟨f.a, 4, none⟩ (.int .i64 ((S.left : Int) + (r.n : Int)))).drew.heap[f.c]? = some (.cells (iCells (clearP S.cells r.base r.n)) 3 (0, 0))) := (Below.heap_setCell w4 _ _ f.c hne.out.1.symm).trans HBC4.out
  have HBM5 : Hid (MapZ (Value.int .i64) (w4.setCell ⟨f.a, 4, none⟩ (.int .i64 ((S.left : Int) + (r.n : Int)))).drew f.m (delK (regMap S.regs) (r.id : Int))) := HBM4.out.same (Below.heap_setCell w4 _ _ f.m hne.out.2.1.symm)
  have HBT5 : Hid (MtOpt (w4.setCell ⟨f.a, 4, none⟩ (.int .i64 ((S.left : Int) + (r.n : Int)))).drew f.t S.mt) := HBT4.out.same fun b e => Below.heap_setCell w4 _ _ b (hne.out.2.2.2 b e).1
  have hMV5 : Hid (Mv f w (w4.setCell ⟨f.a, 4, none⟩ (.int .i64 ((S.left : Int) + (r.n : Int)))).drew) := hMV4.out.trans (Mv.of_grown f (grown_drew (grown_set (World.grownBy.refl _ _) 4 _)) (.inl rfl))
  clear B5 e4 e4d f4 l1 hwl HBA4 HL4 HBC4 HBM4 HBT4 hMV4
  generalize (w4.setCell ⟨f.a, 4, none⟩ (.int .i64 ((S.left : Int) + (r.n : Int)))).drew = w5 at *
  have c0 : w5.cell? ⟨f.a, 0, none⟩ = some (.pointer (tAddr f.t)) := cell_of_row _ _ 0 _ _ _ HBA5.out
  have l1 : w5.cell? ⟨L, 1, none⟩ = some (.int .i64 (r.n : Int)) := cell_of_row _ _ 1 _ _ _ HL5.out
  go_wp2
  refine wp_region_noPanic ?_
  refine wp_region_held_drew (S := (fun w' => w'.cell? ⟨f.a, 0, none⟩ = some (.pointer (tAddr f.t)) ∧ w'.cell? ⟨L, 1, none⟩ = some (.int .i64 (r.n : Int)))) (by kernel_rfl) (⟨c0, l1⟩) (fun hH => ?_)
  refine wpAnyH_take (i := 0) (oi := ⟨some 42, _, _, _, _, _⟩) (v := .pointer (some ⟨f.a, 0, none⟩)) rfl (by kernel_rfl) (by kernel_rfl) (by kernel_rfl) (fun _ _ _ h => h) (Or.inl ⟨by rfl, fun wq hq => ?_⟩) hH ?_
  · go_simp
  simp only [Act.put, List.setIfInBounds_toArray, List.set_cons_zero, List.set_cons_succ]
  refine wpAnyH_take (i := 1) (oi := ⟨some 43, _, _, _, _, _⟩) (v := .pointer (some ⟨f.a, 0, none⟩)) rfl (by kernel_rfl) (by kernel_rfl) (by kernel_rfl) (fun _ _ _ h => h) (Or.inl ⟨by rfl, fun wq hq => ?_⟩) hH ?_
  · go_simp
  simp only [Act.put, List.setIfInBounds_toArray, List.set_cons_zero, List.set_cons_succ]
  refine wpAnyH_take (i := 2) (oi := ⟨some 44, _, _, _, _, _⟩) (v := .pointer (some ⟨f.a, 0, none⟩)) rfl (by kernel_rfl) (by kernel_rfl) (by kernel_rfl) (fun _ _ _ h => h) (Or.inl ⟨by rfl, fun wq hq => ?_⟩) hH ?_
  · go_simp
  simp only [Act.put, List.setIfInBounds_toArray, List.set_cons_zero, List.set_cons_succ]
  refine wpAnyH_take (i := 3) (oi := ⟨some 45, _, _, _, _, _⟩) (v := .pointer (tAddr f.t)) rfl (by kernel_rfl) (by kernel_rfl) (by kernel_rfl) (fun _ _ _ h => h) (Or.inl ⟨by rfl, fun wq hq => ?_⟩) hH ?_
  · obtain ⟨q1, q2⟩ := hq; go_simp
  simp only [Act.put, List.setIfInBounds_toArray, List.set_cons_zero, List.set_cons_succ]
  refine wpAnyH_take (i := 4) (oi := ⟨some 46, _, _, _, _, _⟩) (v := .pointer (some ⟨L, 1, none⟩)) rfl (by kernel_rfl) (by kernel_rfl) (by kernel_rfl) (fun _ _ _ h => h) (Or.inl ⟨by rfl, fun wq hq => ?_⟩) hH ?_
  · go_simp
  simp only [Act.put, List.setIfInBounds_toArray, List.set_cons_zero, List.set_cons_succ]
  refine wpAnyH_take (i := 5) (oi := ⟨some 47, _, _, _, _, _⟩) (v := .int .i64 (r.n : Int)) rfl (by kernel_rfl) (by kernel_rfl) (by kernel_rfl) (fun _ _ _ h => h) (Or.inl ⟨by rfl, fun wq hq => ?_⟩) hH ?_
  · obtain ⟨q1, q2⟩ := hq; go_simp
  simp only [Act.put, List.setIfInBounds_toArray, List.set_cons_zero, List.set_cons_succ]
  refine wpAnyH_ready (rs := [6]) (by kernel_rfl) (by simp) (AllReadyH.cons (o := ⟨some 48, .call { callee := .value (.func 50), args := #[.tmp 45, .tmp 47], argTypes := #[43, 3] }, _, _, _, _⟩) rfl (fun K hK => ?_) AllReadyH.nil)
  rw [if_pos (by rfl)]
  refine wp_call 50 _ _ rfl #[.pointer (tAddr f.t), .int .i64 (r.n : Int)] (by simp only [List.map_toArray, List.map_cons, List.map_nil]; rfl) (by kernel_rfl) (give_opt r.n f.t S.mt _ HBT5.out hu.out) ?_
  intro v w6 hr6
  obtain ⟨hm6, hg6⟩ := hr6
  have FIN := Lib.hid (free_fin hne.out hwf.out hla.out hMV5.out HBA5.out HBC5.out (by have := HBM5.out; rw [delK_regs] at this; exact this) hm6 ⟨hg6.os, hg6.tape, hg6.output, hg6.size, hg6.block⟩)
  refine hK.out _ _ (⟨blk_cell (hg6.block f.a (blk_lt HBA5.out) (fun e => (hne.out.2.2.2 _ e.symm).1 rfl)) c0, blk_cell (hg6.block L (blk_lt HL5.out) (fun e => HLt.out _ e.symm rfl)) l1⟩) (fun hHn => ?_)
  replace hH := hHn
  clear hK K hHn
  simp only [Act.put, List.setIfInBounds_toArray, List.set_cons_zero, List.set_cons_succ]
  refine wpAnyH_done (by kernel_rfl) ?_ _
  refine NoPanic.normal ?_
  clear hH c0 l1 hm6 hg6 HBA5 HL5 HBC5 HBM5 HBT5 hMV5
  go_wp2
  go_returns
  exact ⟨rfl, FIN.out.1, FIN.out.2⟩
/-- A region is taken back, or there is none. -/
theorem free_any {w : World} {f : Fp} {S : PA} (h : ArenaAt w f S) (id : Int) :
    Calls Try.prog 18 #[.pointer (some ⟨f.a, 0, none⟩), .int .i64 id] w fun e w' => e = .returned (.int .i64 ((freeP S id).1 : Int)) ∧ ArenaAt w' f (freeP S id).2 ∧ Mv f w w' := by
  cases hf : findP S id with
  | none => rw [show freeP S id = (7, S) by unfold freeP; rw [hf]]; exact (free_none h id hf).mono fun e w' ⟨he, hb⟩ => ⟨he, h.below hb, Mv.of_below f hb⟩
  | some r => rw [show freeP S id = (0, freeReg S r) by unfold freeP; rw [hf]]; exact free_some h id r hf
end Go.Proofs.Ytdjmjdfkblhgdaa
