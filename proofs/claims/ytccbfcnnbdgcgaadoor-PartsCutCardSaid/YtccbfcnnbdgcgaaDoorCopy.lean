/- Appending a whole row that came in onto a row of the call's own. -/
import Derived.Test.YtccbfcnnbdgcgaaDoorAwake
import Derived.Test.YtccbfcnnbdgcgaaDoorRef
import Derived.Maps.AppendAt
namespace Go.Proofs.YtccbfcnnbdgcgaaDoor
open Go.RowKit
attribute [local go_sem] S4.val

section
variable {P : Program} {w : World}
theorem run_append_row (base : Nat) (t ty e : TypeId) (i : TypeInfo) (z : Value) (size bytes : Nat) (ht : P.underlying t = some (.slice e)) (hi : P.info? e = some i) (hz : i.zero = some z)
    (hsize : i.size = size) (hby : i.bytes = bytes) (hzs : z.cells.size = size) (hsz : 0 < size)
    (v : Value) (n : Nat) (xs : List Value) (hown : w.ownsRow base e size v n xs)
    (L B : Nat) (A : Option Addr) (m c : Nat) (news : List Value) (hlen : news.length = m * size) (hr : RowAt w L B A news) (h1 : ∀ u ∈ news, u.oneCell' = true)
    (h63 : n + m ≤ maxLen) (hbytes : (n + m) * bytes ≤ 140737488355328) (hbase : base ≤ w.heap.size) :
    ∃ v' w', (Builtin.append_ #[t, t] ty #[v, .slice A m c]).run P w = .ok v' w' ∧ w'.ownsRow base e size v' (n + m) (xs ++ news) ∧ w.grownBy w' v.ownBlock ∧
      (v'.ownBlock = v.ownBlock ∨ v'.ownBlock = some w.heap.size) := by
  rcases Nat.eq_zero_or_pos m with h0 | h0
  · subst h0
    have hn : news = [] := List.eq_nil_of_length_eq_zero (by simpa using hlen)
    subst hn
    refine ⟨v, w, ?_, by simpa using hown, World.grownBy.refl w _, .inl rfl⟩
    rcases hown.2 with ⟨rfl, rfl⟩ | ⟨g, cap, cur, rfl, _, _, hnc, _⟩
    · cases A <;> simp [Builtin.append_, run_underlying ht, sizeOf, typeInfo, hi, Builtin.lenOf, Builtin.firstCells, loadCells, loadCellsFrom]
    · cases A <;> simp [Builtin.append_, run_underlying ht, sizeOf, typeInfo, hi, Builtin.lenOf, Builtin.firstCells, hnc, storeCells, loadCells, loadCellsFrom]
  · have hpos : 0 < news.length := by rw [hlen]; exact Nat.mul_pos h0 hsz
    obtain ⟨ad, rfl, _, _, _⟩ := hr 0 _ (List.getElem?_eq_getElem hpos)
    have hcells : ∀ j u, news[j]? = some u → w.cell? (ad.add j) = some u := by
      intro j u hu
      obtain ⟨ad', h, _, _, hc⟩ := hr j u hu
      injection h with h
      subst h
      exact hc
    obtain ⟨v', w', hrun, h2, h3, _, h5⟩ := run_append_own_at (P := P) w base t ty e i z size bytes ht hi hz hsize hby hzs hsz v n xs hown ad m c news hlen hcells h1 h63 hbytes hbase
    exact ⟨v', w', hrun, h2, h3, h5⟩
theorem wpList_append_row {ops : Array Oper} {rest : List Oper} {o : Oper} {a : Act} {Q : Exit → Act → World → Prop} (hgd : o.guard = none) (s x : Operand) (t : TypeId)
    (ho : o.op = .call { callee := .builtin .append, args := #[s, x], argTypes := #[t, t] })
    (base : Nat) (e : TypeId) (i : TypeInfo) (z : Value) (size bytes : Nat) (ht : P.underlying t = some (.slice e)) (hi : P.info? e = some i) (hz : i.zero = some z)
    (hsize : i.size = size) (hby : i.bytes = bytes) (hzs : z.cells.size = size) (hsz : 0 < size)
    (v : Value) (n : Nat) (xs : List Value) (hs : a.eval s = v) (hown : w.ownsRow base e size v n xs)
    (L B : Nat) (A : Option Addr) (m c : Nat) (news : List Value) (hx : a.eval x = .slice A m c) (hlen : news.length = m * size) (hr : RowAt w L B A news) (h1 : ∀ u ∈ news, u.oneCell' = true)
    (h63 : n + m ≤ maxLen) (hbytes : (n + m) * bytes ≤ 140737488355328) (hbase : base ≤ w.heap.size)
    (h : ∀ v' w', w'.ownsRow base e size v' (n + m) (xs ++ news) → w.grownBy w' v.ownBlock → (v'.ownBlock = v.ownBlock ∨ v'.ownBlock = some w.heap.size) → wpList P ops Q rest (a.put o.dst v') w') : wpList P ops Q (o :: rest) a w := by
  refine wpList_plain hgd fun K hK => ?_
  obtain ⟨v', w', hrun, h2, h3, h4⟩ := run_append_row (P := P) (w := w) base t o.type e i z size bytes ht hi hz hsize hby hzs hsz v n xs hown L B A m c news hlen hr h1 h63 hbytes hbase
  unfold Oper.wp execOp
  simp only [ho, resolve, invoke, builtin, Sem.run_bind, Sem.run_pure, Result.andThen_ok, List.map_toArray, List.map_cons, List.map_nil, hs, hx, hrun]
  exact hK _ _ (h v' w' h2 h3 h4)
end
theorem own_empty (w : World) (e : TypeId) (size : Nat) : (w.alloc (.cells #[] e)).ownsRow w.heap.size e size (.slice (some ⟨w.heap.size, 0, none⟩) 0 0) 0 [] :=
  ⟨by simp, .inr ⟨w.heap.size, 0, #[], rfl, Nat.le_refl _, heap_alloc_new w _, Nat.le_refl _, by decide, by simp, by simp⟩⟩
section
variable {P : Program} {w : World}
/-- A call of a Go function as one step of a region that draws. -/
theorem step_call {ops : Array Oper} {o : Oper} {a : Act} {K : Act → World → Prop} {Q : Exit → Act → World → Prop} {E : Prop} (hgd : o.guard = none) (f : FuncId) (xs : Array Operand) (ats : Array TypeId)
    (ho : o.op = .call { callee := .value (.func f), args := xs, argTypes := ats }) (vals : Array Value) (hv : xs.map a.eval = vals) (R : Value → World → Prop)
    (hrun : (callFunc f vals).run P w = .ok (.enter f vals) w) (hc : Calls P f vals w fun e w' => ∃ v, e = .returned v ∧ R v w')
    (h : ∀ v w', R v w' → K (a.put o.dst v) w') :
    if Region.wanted o (yielded ops a.tmps) = true then Oper.wp P o a w K Q else E := by
  have hw : Region.wanted o (yielded ops a.tmps) = true := by simp [Region.wanted, hgd]
  rw [if_pos hw]
  obtain ⟨dst, op, ty, pos, aft, gd⟩ := o
  simp only at ho
  subst ho
  unfold Oper.wp
  rw [execOp_call_go, hv]
  have e : (#[] ++ vals ++ #[] : Array Value) = vals := by simp
  rw [e, hrun, Oper.upon_enter]
  refine hc.mono ?_
  rintro e w' ⟨v, rfl, hr⟩
  exact h v w' hr
theorem call_cut (v : Value) (w : World) : (callFunc 9 #[v]).run Tryd.prog w = .ok (.enter 9 #[v]) w := by kernel_rfl
theorem step_append_row {ops : Array Oper} {o : Oper} {a : Act} {K : Act → World → Prop} {Q : Exit → Act → World → Prop} {E : Prop} (hgd : o.guard = none) (s x : Operand) (t : TypeId)
    (ho : o.op = .call { callee := .builtin .append, args := #[s, x], argTypes := #[t, t] })
    (base : Nat) (e : TypeId) (i : TypeInfo) (z : Value) (size bytes : Nat) (ht : P.underlying t = some (.slice e)) (hi : P.info? e = some i) (hz : i.zero = some z)
    (hsize : i.size = size) (hby : i.bytes = bytes) (hzs : z.cells.size = size) (hsz : 0 < size)
    (v : Value) (n : Nat) (xs : List Value) (hs : a.eval s = v) (hown : w.ownsRow base e size v n xs)
    (L B : Nat) (A : Option Addr) (m c : Nat) (news : List Value) (hx : a.eval x = .slice A m c) (hlen : news.length = m * size) (hr : RowAt w L B A news) (h1 : ∀ u ∈ news, u.oneCell' = true)
    (h63 : n + m ≤ maxLen) (hbytes : (n + m) * bytes ≤ 140737488355328) (hbase : base ≤ w.heap.size)
    (h : ∀ v' w', w'.ownsRow base e size v' (n + m) (xs ++ news) → w.grownBy w' v.ownBlock → (v'.ownBlock = v.ownBlock ∨ v'.ownBlock = some w.heap.size) → K (a.put o.dst v') w') :
    if Region.wanted o (yielded ops a.tmps) = true then Oper.wp P o a w K Q else E := by
  have hw : Region.wanted o (yielded ops a.tmps) = true := by simp [Region.wanted, hgd]
  rw [if_pos hw]
  obtain ⟨v', w', hrun, h2, h3, h4⟩ := run_append_row (P := P) (w := w) base t o.type e i z size bytes ht hi hz hsize hby hzs hsz v n xs hown L B A m c news hlen hr h1 h63 hbytes hbase
  unfold Oper.wp execOp
  simp only [ho, resolve, invoke, builtin, Sem.run_bind, Sem.run_pure, Result.andThen_ok, List.map_toArray, List.map_cons, List.map_nil, hs, hx, hrun]
  exact h v' w' h2 h3 h4
end
/-- A copy of a row that came in: a row of the call's own. -/
theorem copied {w w1 w2 : World} {v : Value} {l : List S4} {g : Nat} {o : Obj} (hB : Below w.heap.size w w1) (hg : (w1.alloc o).grownBy w2 (some g)) (hge : w.heap.size ≤ g)
    {base : Nat} (hown : w2.ownsRow base 35 4 v (0 + l.length) ([] ++ setsCells l)) :
    Below w.heap.size w w2 ∧ ∃ A' c', v = .slice A' l.length c' ∧ RowAt w2 0 w2.heap.size A' (setsCells l) := by
  rw [Nat.zero_add, List.nil_append] at hown
  obtain ⟨A', c', rfl⟩ := own_slice hown
  exact ⟨(hB.alloc hB.size _).grown hg (Nat.le_trans hB.size (by simp)) (fun k hk => by injection hk with hk; omega), A', c', rfl, (RowAt.own hown).mono (Nat.zero_le _) (Nat.le_refl _)⟩
/-- The same, said of the world just before. -/
theorem copied1 {w1 w2 : World} {v : Value} {l : List S4} {o : Obj} (hg : (w1.alloc o).grownBy w2 (some w1.heap.size))
    {base : Nat} (hown : w2.ownsRow base 35 4 v (0 + l.length) ([] ++ setsCells l)) :
    Below w1.heap.size w1 w2 ∧ ∃ A' c', v = .slice A' l.length c' ∧ RowAt w2 0 w2.heap.size A' (setsCells l) := by
  rw [Nat.zero_add, List.nil_append] at hown
  obtain ⟨A', c', rfl⟩ := own_slice hown
  exact ⟨((Below.refl _ _).alloc (Nat.le_refl _) _).grown hg (by simp) (fun k hk => by injection hk with hk; omega), A', c', rfl, (RowAt.own hown).mono (Nat.zero_le _) (Nat.le_refl _)⟩
end Go.Proofs.YtccbfcnnbdgcgaaDoor
