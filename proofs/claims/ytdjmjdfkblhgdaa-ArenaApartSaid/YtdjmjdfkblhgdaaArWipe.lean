/- All regions are taken back. -/
import Derived.Test.YtdjmjdfkblhgdaaArFree
import Derived.Shelf.SlMaps.Clone
namespace Go.Proofs.Ytdjmjdfkblhgdaa
open Go.RowKit
set_option maxHeartbeats 1000000 in
theorem clone_any {w : World} {b : Nat} {l : List (Int × Value)} (h : MapZ (Value.int .i64) w b l) :
    Calls Try.prog 51 #[.map (some b)] w fun e w' => e = .returned (.map (some w.heap.size)) ∧ MapZ (Value.int .i64) w' w.heap.size l ∧ Below w.heap.size w w' := by
  have hB : ∀ o, Below w.heap.size w (w.alloc o) := fun o => (Below.refl _ w).alloc (Nat.le_refl _) _
  obtain ⟨es, clock, hb, hl, hs⟩ := h
  have hq : (binOp .eql 77 (.map (some b)) (.map none)).run Try.prog w = .ok (.bool false) w := run_eql_map_nil_sl (P := Try.prog) w 77 3 82 (some b) underR
  have HH : Hid (MapZ (Value.int .i64) (w.alloc (.map es clock)) w.heap.size l) := ⟨es, clock, (MapKept.heap_alloc w _).1, hl, hs⟩
  clear hl hs
  go_enter Try.func51, Try.ntmps51
  have hcl : (callFunc 71 #[.iface 77 (.map (some b))]).run Try.prog w = .ok (.value (.iface 77 (.map (some w.heap.size)))) (w.alloc (.map es clock)) := by
    rw [run_callFunc_extern Try.func71 (by kernel_rfl) (by kernel_rfl) (by kernel_rfl) (e := Extern.MapsClone.clone) (by kernel_rfl), run_maps_clone_sl w 77 hb]
    rfl
  have hta := fun w v => run_typeAssert_map_sl (P := Try.prog) w 77 20 _ _ v underR
  go_wp2_with fail
  go_returns
  exact ⟨rfl, HH.out, hB _⟩
theorem regs_nil_wipe {S S' : PA} (hz : S'.size = S.size) (hl : S'.last = S.last) (hm : ∃ u, S'.mt = S.mt.map fun m => { m with used := u }) (hr : S'.regs = []) (hwf : WF S') : S' = wipeP S := by
  obtain ⟨u, hm⟩ := hm
  obtain ⟨size, cells, regs, last, left, mt⟩ := S'
  simp only at hz hl hm hr
  subst hz hl hr
  unfold wipeP
  congr 1
  · apply List.ext_getElem?
    intro i
    by_cases hi : i < S.size
    · rw [List.getElem?_replicate, if_pos hi]
      exact hwf.zero i hi (by simp)
    · rw [List.getElem?_eq_none (by have := hwf.len; simp only at this; omega), List.getElem?_eq_none (by simp; omega)]
  · have := hwf.lft; simpa [total] using this
  · cases hmt : S.mt with
    | none => rw [hm, hmt]; rfl
    | some m =>
      have := (hwf.mtr { m with used := u } (by simp only; rw [hm, hmt]; rfl)).1
      rw [hm, hmt]
      simp only [total, List.map_nil, List.sum_nil] at this
      simp only [Option.map_some, Option.some.injEq]
      rw [this]
theorem ArenaAt.grown {w w1 : World} {f : Fp} {S : PA} {b : Nat} (h : ArenaAt w f S) (hg : w.grownBy w1 (some b)) (hn : f.a ≠ b ∧ f.c ≠ b ∧ f.m ≠ b ∧ ∀ t, f.t = some t → t ≠ b) : ArenaAt w1 f S := by
  have hl := h.lt
  have ne : ∀ {x : Nat}, x ≠ b → some x ≠ some b := fun h e => h (by injection e)
  exact ⟨(hg.block _ hl.1 (ne hn.1)).trans h.ba, (hg.block _ hl.2.1 (ne hn.2.1)).trans h.bc, h.bm.same (hg.block _ hl.2.2.1 (ne hn.2.2.1)), h.bt.same fun t e => hg.block t (hl.2.2.2 t e) (ne (hn.2.2.2 t e)), h.wf, h.la⟩
/-- So far: the regions of these keys are gone. -/
structure WipeAt (S : PA) (dn : List (Int × Value)) (S' : PA) : Prop where
  size : S'.size = S.size
  last : S'.last = S.last
  mt : ∃ u, S'.mt = S.mt.map fun m => { m with used := u }
  regs : ∀ r, r ∈ S'.regs → r ∈ S.regs ∧ ∀ p, p ∈ dn → p.1 ≠ (r.id : Int)
theorem WipeAt.start (S : PA) : WipeAt S [] S := by
  refine ⟨rfl, rfl, ?_, fun r h => ⟨h, by simp⟩⟩
  cases hm : S.mt with
  | none => exact ⟨0, rfl⟩
  | some m => exact ⟨m.used, rfl⟩
theorem WipeAt.step {S S' : PA} {dn : List (Int × Value)} (h : WipeAt S dn S') (p : Int × Value) : WipeAt S (dn ++ [p]) (freeP S' p.1).2 := by
  unfold freeP
  cases hf : findP S' p.1 with
  | none =>
    refine ⟨h.size, h.last, h.mt, fun r hr => ⟨(h.regs r hr).1, fun q hq => ?_⟩⟩
    rcases List.mem_append.1 hq with hq | hq
    · exact (h.regs r hr).2 q hq
    · rw [List.mem_singleton] at hq; subst hq; exact fun e => (findP_none.1 hf) r hr e.symm
  | some x =>
    obtain ⟨hx, he⟩ := findP_mem hf
    refine ⟨h.size, h.last, ?_, fun r hr => ?_⟩
    · obtain ⟨u, hu⟩ := h.mt
      refine ⟨u - x.n, ?_⟩
      show S'.mt.map _ = _
      rw [hu]
      cases S.mt <;> rfl
    · have hr' : r ∈ S'.regs ∧ r.id ≠ x.id := by have := List.mem_filter.1 hr; exact ⟨this.1, by simpa using this.2⟩
      refine ⟨(h.regs r hr'.1).1, fun q hq => ?_⟩
      rcases List.mem_append.1 hq with hq | hq
      · exact (h.regs r hr'.1).2 q hq
      · rw [List.mem_singleton] at hq; subst hq; rw [← he]; exact fun e => hr'.2 (by omega)
theorem WipeAt.done {S S' : PA} {dn : List (Int × Value)} (h : WipeAt S dn S') (hd : dn.Perm (regMap S.regs)) (hwf : WF S') : S' = wipeP S := by
  refine regs_nil_wipe h.size h.last h.mt ?_ hwf
  rw [List.eq_nil_iff_forall_not_mem]
  intro r hr
  obtain ⟨h1, h2⟩ := h.regs r hr
  exact h2 ((r.id : Int), regVal (r.base, r.n)) (hd.mem_iff.2 (List.mem_map.2 ⟨r, h1, rfl⟩)) rfl
theorem wipe_nil (w : World) : Calls Try.prog 22 #[.pointer none] w fun e w' => e = .returned (.tuple #[]) ∧ w = w' := by
  go_enter Try.func22, Try.ntmps22
  go_wp2
  go_returns
  exact ⟨rfl, rfl⟩
set_option maxHeartbeats 2000000 in
theorem wipe_any {w : World} {f : Fp} {S : PA} (h : ArenaAt w f S) :
    Calls Try.prog 22 #[.pointer (some ⟨f.a, 0, none⟩)] w fun e w' => e = .returned (.tuple #[]) ∧ ArenaAt w' f (wipeP S) ∧ Mv f w w' := by
  have hq := eqlA f.a w
  have C := Lib.hid (clone_any h.bm)
  have H := Lib.hid h
  have c2 := h.c2
  have hltw := Lib.hid h.lt
  clear h
  go_enter Try.func22, Try.ntmps22
  go_wp2_with fail
  refine C.out.mono ?_
  rintro e w1 ⟨rfl, hm1, hb1⟩
  have H1 := Lib.hid (H.out.below hb1)
  go_wp2_with (at_range; refine wpList_rangeZ rfl _ 77 rfl _ _ underR rfl hm1 ?_; intro ob hit)
  simp only [Act.put, List.setIfInBounds_toArray, List.set_cons_zero, List.set_cons_succ]
  have hbo : Below w.heap.size w (w1.alloc ob) := hb1.alloc hb1.size ob
  have HA := H.out.below hbo
  have h0 : Hid (∃ S' dn left, IterZ (Value.int .i64) (w1.alloc ob) w1.heap.size w.heap.size (regMap S.regs) dn left ∧ ArenaAt (w1.alloc ob) f S' ∧ WipeAt S dn S' ∧ Mv f w (w1.alloc ob)) :=
    ⟨S, [], _, hit, HA, WipeAt.start S, Mv.of_below f hbo⟩
  clear hit hbo HA hm1 c2 hq C
  go_loopw [2, 17] (fun _ _ wr => ∃ S' dn left, IterZ (Value.int .i64) wr w1.heap.size w.heap.size (regMap S.regs) dn left ∧ ArenaAt wr f S' ∧ WipeAt S dn S' ∧ Mv f w wr)
    (fun _ _ wr => wr.rangeLeft w.heap.size w1.heap.size)
  case atStart => exact h0.out
  case round =>
    obtain ⟨S', dn, left, hI, hA, hW, hM⟩ := hrel
    go_wp2_with (at_next; refine wpList_nextZ rfl _ rfl rfl hI ?_ ?_)
    · intro hl
      subst hl
      go_wp2
      go_returns
      have hd : dn.Perm (regMap S.regs) := by
        obtain ⟨_, _, _, _, _, _, _, _, _, _, _, _, _, hp⟩ := hI
        simpa using hp
      rw [← hW.done hd hA.wf]
      exact ⟨rfl, hA, hM⟩
    · intro i pk pv w2 hp hI2 hg2 hs2 hen
      have hsz := hb1.size
      have hnf : f.a ≠ w1.heap.size ∧ f.c ≠ w1.heap.size ∧ f.m ≠ w1.heap.size ∧ ∀ t, f.t = some t → t ≠ w1.heap.size :=
        ⟨by have := hltw.out.1; omega, by have := hltw.out.2.1; omega, by have := hltw.out.2.2.1; omega, fun t e => by have := hltw.out.2.2.2 t e; omega⟩
      have hA2 := Lib.hid (hA.grown hg2 hnf)
      have hlt2 := hI2.lt
      have hM2 : Hid (Mv f w w2) := by
        refine ⟨hg2.os.trans hM.os, hg2.tape.trans hM.tape, hg2.output.trans hM.output, Nat.le_trans hM.size hg2.size, fun k hk h1 h2 h3 h4 => ?_⟩
        exact (hg2.block k (Nat.lt_of_lt_of_le hk hM.size) (fun e => by injection e with e; omega)).trans (hM.block k hk h1 h2 h3 h4)
      have hlen := hI.left_eq
      have hil := (List.getElem?_eq_some_iff.1 hp).1
      have HI2 := Lib.hid hI2
      have HW := Lib.hid (hW.step (pk, pv))
      have hnf' := Lib.hid hnf
      clear hA hM hW hp hg2 hs2 hnf hI2 hI
      go_wp2_with fail
      refine (free_any hA2.out pk).mono ?_
      rintro e w3 ⟨rfl, hA3, hM3⟩
      have HA3 := Lib.hid hA3
      have HM3 := Lib.hid hM3
      clear hA3 hM3
      go_wp2
      have hl0 := hltw.out
      have hne1 : ∀ k, w.heap.size ≤ k → k < w2.heap.size → w3.heap[k]? = w2.heap[k]? := fun k h1 h2 => HM3.out.block k h2 (by omega) (by omega) (by omega) (fun e => by have := hl0.2.2.2 k e; omega)
      have hI3 := HI2.out.same (w1 := w3) (hne1 _ (Nat.le_refl _) hlt2.2) (hne1 _ hsz hlt2.1)
      refine ⟨⟨_, _, _, hI3, HA3.out, HW.out, hM2.out.trans HM3.out⟩, ?_⟩
      rw [hI3.left_eq, hlen, List.length_eraseIdx, if_pos hil]
      omega
end Go.Proofs.Ytdjmjdfkblhgdaa
