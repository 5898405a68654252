/- What is taken: the cells of the regions of the ids that were handed out. No program. -/
import Derived.Test.YtdjmjdfkblhgdaaArPlain
namespace Go.Proofs.Ytdjmjdfkblhgdaa
def cellsOf (S : PA) (id : Nat) : List Int := match findP S (id : Int) with
  | none => []
  | some r => (List.range r.n).map fun i => (((r.base + i : Nat)) : Int)
def takenP (S : PA) (ids : List Nat) : List Int := ids.flatMap (cellsOf S)
structure IdsOK (S : PA) (ids : List Nat) : Prop where
  nodup : ids.Nodup
  le : ∀ id, id ∈ ids → id ≤ S.last
  has : ∀ r, r ∈ S.regs → r.id ∈ ids
theorem allocP_cases (S : PA) (n : Int) : ((allocP S n).2.1 = 0 ∧ (allocP S n).1 = S.last + 1 ∧ ∃ p m mt, (allocP S n).2.2 = addReg S p m mt) ∨ ((allocP S n).2.1 ≠ 0 ∧ (allocP S n).2.2.regs = S.regs ∧ (allocP S n).2.2.last = S.last ∧ (allocP S n).2.2.size = S.size) := by
  unfold allocP
  split
  · exact .inr ⟨by simp, rfl, rfl, rfl⟩
  · split
    · exact .inr ⟨by simp, rfl, rfl, rfl⟩
    · split
      · exact .inl ⟨rfl, rfl, _, _, _, rfl⟩
      · split
        · exact .inl ⟨rfl, rfl, _, _, _, rfl⟩
        · exact .inr ⟨by simp, rfl, rfl, rfl⟩
theorem allocP_size (S : PA) (n : Int) : (allocP S n).2.2.size = S.size := by
  rcases allocP_cases S n with ⟨_, _, p, m, mt, h⟩ | ⟨_, _, _, h⟩
  · rw [h]; rfl
  · exact h
theorem freeP_size (S : PA) (id : Int) : (freeP S id).2.size = S.size := by
  unfold freeP
  split <;> rfl
theorem IdsOK.alloc_ok {S : PA} {ids : List Nat} (h : IdsOK S ids) {n : Int} (he : (allocP S n).2.1 = 0) : (allocP S n).1 = S.last + 1 ∧ IdsOK (allocP S n).2.2 (ids ++ [S.last + 1]) := by
  rcases allocP_cases S n with ⟨_, h1, p, m, mt, h2⟩ | ⟨h0, _⟩
  · refine ⟨h1, ?_⟩
    rw [h2]
    refine ⟨?_, ?_, ?_⟩
    · rw [List.nodup_append]
      refine ⟨h.nodup, by simp, fun a ha b hb e => ?_⟩
      rw [List.mem_singleton] at hb
      have := h.le a ha
      omega
    · intro id hid
      show id ≤ S.last + 1
      rcases List.mem_append.1 hid with hid | hid
      · have := h.le id hid; omega
      · rw [List.mem_singleton] at hid; omega
    · intro r hr
      rcases List.mem_append.1 (show r ∈ S.regs ++ [_] from hr) with hr | hr
      · exact List.mem_append_left _ (h.has r hr)
      · rw [List.mem_singleton] at hr; subst hr; exact List.mem_append_right _ List.mem_cons_self
  · exact absurd he h0
theorem IdsOK.alloc_no {S : PA} {ids : List Nat} (h : IdsOK S ids) {n : Int} (he : (allocP S n).2.1 ≠ 0) : IdsOK (allocP S n).2.2 ids := by
  rcases allocP_cases S n with ⟨h0, _⟩ | ⟨_, h1, h2, _⟩
  · exact absurd h0 he
  · exact ⟨h.nodup, by rw [h2]; exact h.le, by rw [h1]; exact h.has⟩
theorem IdsOK.free {S : PA} {ids : List Nat} (h : IdsOK S ids) (id : Int) : IdsOK (freeP S id).2 ids := by
  unfold freeP
  split
  · exact h
  · exact ⟨h.nodup, h.le, fun r hr => h.has r (List.mem_filter.1 hr).1⟩
theorem IdsOK.wipe {S : PA} {ids : List Nat} (h : IdsOK S ids) : IdsOK (wipeP S) ids := ⟨h.nodup, h.le, fun r hr => by cases hr⟩
theorem IdsOK.nil (S : PA) (hr : S.regs = []) : IdsOK S [] := ⟨List.nodup_nil, (by simp), by rw [hr]; simp⟩
theorem WF.apart_of {S : PA} (h : WF S) {r s : Reg} (hr : r ∈ S.regs) (hs : s ∈ S.regs) (hne : r.id ≠ s.id) : Apart (r.base, r.n) (s.base, s.n) := by
  obtain ⟨i, hi, rfl⟩ := List.getElem_of_mem hr
  obtain ⟨j, hj, rfl⟩ := List.getElem_of_mem hs
  have hp := List.pairwise_iff_getElem.1 h.apart
  rcases Nat.lt_trichotomy i j with hij | hij | hij
  · exact hp i j hi hj hij
  · subst hij; exact absurd rfl hne
  · exact (hp j i hj hi hij).symm
theorem mem_cellsOf {S : PA} {id : Nat} {x : Int} : x ∈ cellsOf S id ↔ ∃ r, findP S (id : Int) = some r ∧ ∃ i, i < r.n ∧ x = ((r.base + i : Nat) : Int) := by
  unfold cellsOf
  split
  · rename_i h; simp [h]
  · rename_i r h
    simp only [h, Option.some.injEq, exists_eq_left', List.mem_map, List.mem_range]
    exact ⟨fun ⟨i, h1, h2⟩ => ⟨i, h1, h2.symm⟩, fun ⟨i, h1, h2⟩ => ⟨i, h1, h2.symm⟩⟩
/-- What one region holds is in no other one. -/
theorem WF.cells_apart {S : PA} (h : WF S) {a b : Nat} (hne : a ≠ b) {x : Int} (ha : x ∈ cellsOf S a) : x ∉ cellsOf S b := by
  intro hb
  obtain ⟨r, hr, i, hi, rfl⟩ := mem_cellsOf.1 ha
  obtain ⟨s, hs, j, hj, he⟩ := mem_cellsOf.1 hb
  have r1 := findP_mem hr
  have s1 := findP_mem hs
  rcases h.apart_of r1.1 s1.1 (by omega) with hh | hh <;> simp only at hh <;> omega
theorem WF.cells_in {S : PA} (h : WF S) {a : Nat} {x : Int} (ha : x ∈ cellsOf S a) : 0 ≤ x ∧ x < (S.size : Int) := by
  obtain ⟨r, hr, i, hi, rfl⟩ := mem_cellsOf.1 ha
  have := (h.pos r (findP_mem hr).1).2
  omega
theorem sum_find : ∀ (ids : List Nat) (rs : List Reg), ids.Nodup → (rs.map (·.id)).Nodup → (∀ r, r ∈ rs → r.id ∈ ids) →
    (ids.map fun (id : Nat) => ((rs.find? fun (r : Reg) => decide ((r.id : Int) = (id : Int))).map (·.n)).getD 0).sum = total rs := by
  intro ids
  induction ids with
  | nil =>
    intro rs _ _ hh
    cases rs with
    | nil => rfl
    | cons r rs => exact absurd (hh r List.mem_cons_self) (by simp)
  | cons a ids ih =>
    intro rs hn hr hh
    rw [List.nodup_cons] at hn
    rw [List.map_cons, List.sum_cons]
    cases hf : rs.find? fun r => decide ((r.id : Int) = (a : Int)) with
    | none =>
      have hno : ∀ r, r ∈ rs → r.id ≠ a := fun r hm e => by
        have := List.find?_eq_none.1 hf r hm
        simp at this
        omega
      rw [ih rs hn.2 hr (fun r hm => by
        rcases List.mem_cons.1 (hh r hm) with h | h
        · exact absurd h (hno r hm)
        · exact h)]
      simp
    | some x =>
      have hx : x ∈ rs := List.mem_of_find?_eq_some hf
      have hxa : x.id = a := by have := List.find?_some hf; simp at this; omega
      have ht := total_filter hr hx
      have key := ih (rs.filter fun y => y.id ≠ x.id) hn.2 (hr.sublist (List.filter_sublist.map _)) (fun r hm => by
        have h1 := List.mem_filter.1 hm
        rcases List.mem_cons.1 (hh r h1.1) with h | h
        · have h2 := h1.2; simp at h2; omega
        · exact h)
      have hsame : (ids.map fun (id : Nat) => ((rs.find? fun (r : Reg) => decide ((r.id : Int) = (id : Int))).map (·.n)).getD 0) =
          ids.map fun (id : Nat) => (((rs.filter fun y => y.id ≠ x.id).find? fun (r : Reg) => decide ((r.id : Int) = (id : Int))).map (·.n)).getD 0 := by
        apply List.map_congr_left
        intro id hid
        have hne : id ≠ a := fun e => hn.1 (e ▸ hid)
        congr 2
        rw [List.find?_filter]
        congr 1
        funext r
        by_cases e : (r.id : Int) = (id : Int)
        · have : r.id ≠ x.id := by omega
          simp [e, this]
        · simp [e]
      rw [hsame, key]
      simp only [Option.map_some, Option.getD_some]
      omega
theorem cellsOf_length (S : PA) (id : Nat) : (cellsOf S id).length = ((S.regs.find? fun r => decide ((r.id : Int) = (id : Int))).map (·.n)).getD 0 := by
  unfold cellsOf findP
  cases S.regs.find? fun r => decide ((r.id : Int) = (id : Int)) with
  | none => rfl
  | some r => simp
theorem takenP_length {S : PA} {ids : List Nat} (h : WF S) (hi : IdsOK S ids) : (takenP S ids).length = total S.regs := by
  unfold takenP
  rw [List.length_flatMap, ← sum_find ids S.regs hi.nodup h.ids hi.has]
  congr 1
  apply List.map_congr_left
  intro id _
  exact cellsOf_length S id
end Go.Proofs.Ytdjmjdfkblhgdaa
