/- How the laws' arguments are read: a list of calls as a row of numbers, four a call. -/
import Derived.Test.YtdjmjdfkblhgdaaMem
import Derived.Test.YtdjmjdfkblhgdaaChecked
import Derived.Test.YtdjmjdfkblhgdaaRows
import Derived.WalkKit
import Derived.ProofKit
import Derived.OpenShut
import Derived.Deep.DeepHandedRow
import Derived.Deep.Slices
import Derived.Laws.IdiomArrays
import Derived.Lib.SmallJoins
namespace Go.Proofs.Ytdjmjdfkblhgdaa
open Go.ChangeShapes Go.WideShapes Go.ChangeAt Go.RowKit Go.Deep
theorem ownKnob_none : ownKnob Try.prog.godebug = none := by kernel_rfl
theorem laid_out : laidOutB Try.prog = true := by kernel_rfl
theorem under_int : Try.prog.underlying 3 = some (.int .i64) := by kernel_rfl
theorem under_ops : Try.prog.underlying 22 = some (.slice 28) := by kernel_rfl
theorem cells_op : Try.prog.cellsOf 28 = 4 := by kernel_rfl
theorem cells_int : Try.prog.cellsOf 3 = 1 := by kernel_rfl
/-- A call. -/
structure OpV where
  k : Int
  id : Int
  n : Int
  v : Int
def OpV.cells (o : OpV) : List Value := [.int .i64 o.k, .int .i64 o.id, .int .i64 o.n, .int .i64 o.v]
def opsCells (l : List OpV) : List Value := l.flatMap OpV.cells
theorem opsCells_length (l : List OpV) : (opsCells l).length = l.length * 4 := by
  induction l with
  | nil => rfl
  | cons s l ih => simp only [opsCells, List.flatMap_cons, List.length_append] at ih ⊢; rw [ih]; simp [OpV.cells]; omega
theorem opsCells_at {l : List OpV} {i : Nat} {s : OpV} (h : l[i]? = some s) (j : Nat) (hj : j < 4) : (opsCells l)[i * 4 + j]? = s.cells[j]? := by
  induction l generalizing i with
  | nil => simp at h
  | cons t l ih =>
    have e : opsCells (t :: l) = t.cells ++ opsCells l := by simp [opsCells]
    have hl : t.cells.length = 4 := rfl
    rw [e]
    cases i with
    | zero =>
      simp at h; subst h
      rw [List.getElem?_append_left (by omega)]; simp
    | succ i =>
      rw [List.getElem?_append_right (by omega)]
      have := ih (i := i) (by simpa using h)
      rw [← this]
      congr 1; omega
theorem range_at' (n x : Nat) (h : x < n) : (List.range n)[x]? = some x := by simp [h]
section
variable {H : Type} {enc : TypeId × Value → H} {W : World} {base : Nat} {sp : Nat → Bool} {hd : Bool}
theorem under_op_some : ∃ f0 f1 f2 f3 : Field, Try.prog.underlying 28 = some (.struct #[f0, f1, f2, f3]) ∧ f0.offset = 0 ∧ f1.offset = 1 ∧ f2.offset = 2 ∧ f3.offset = 3 ∧ f0.type = 3 ∧ f1.type = 3 ∧ f2.type = 3 ∧ f3.type = 3 :=
  ⟨_, _, _, _, Try.underlying28, rfl, rfl, rfl, rfl, rfl, rfl, rfl, rfl⟩
theorem open_op_cells {n : Nat} {cs : List Value} {x : DataW H × List MemPlace} (h : DataW.trod enc Try.prog W base sp hd n 28 cs = some x) : ∃ s : OpV, cs = s.cells := by
  obtain ⟨f0, f1, f2, f3, hu, o0, o1, o2, o3, t0, t1, t2, t3⟩ := under_op_some
  obtain ⟨_, _, _, _, _, _, hl, h0, h1, h2, h3⟩ := Go.Joins.trod_struct4 hu h
  rw [cells_op] at hl
  rw [t0, o0, cells_int] at h0
  rw [t1, o1, cells_int] at h1
  rw [t2, o2, cells_int] at h2
  rw [t3, o3, cells_int] at h3
  match cs, hl with
  | [c0, c1, c2, c3], _ =>
    obtain ⟨z0, e0, _, _⟩ := DataW.trod_int under_int h0
    obtain ⟨z1, e1, _, _⟩ := DataW.trod_int under_int h1
    obtain ⟨z2, e2, _, _⟩ := DataW.trod_int under_int h2
    obtain ⟨z3, e3, _, _⟩ := DataW.trod_int under_int h3
    simp at e0 e1 e2 e3
    subst e0; subst e1; subst e2; subst e3
    exact ⟨⟨z0, z1, z2, z3⟩, rfl⟩
set_option maxRecDepth 100000 in
theorem open_ops {r : Reach} {b0 : Nat} {v : Value} {d : DataW H} {ps : List MemPlace} (hv : Value.okWide Try.prog W r b0 22 v) (h : DataW.Trod enc Try.prog W base sp hd 22 v d ps) :
    ∃ (l : List OpV) (A : Option Addr) (c : Nat), v = .slice A l.length c ∧ RowAt W 0 W.heap.size A (opsCells l) := by
  obtain ⟨a, len, cap, rfl⟩ := okWide_slice under_ops hv
  obtain ⟨n, h⟩ := h
  rcases open_slice under_ops h with ⟨hcs, _⟩ | ⟨ad, len', cap', m, n', D, Pl, hcs, _, hlc, _, hm, _, hel⟩
  · injection hcs with hcs; injection hcs with e1 e2 e3
    subst e1; subst e2; subst e3
    exact ⟨[], none, 0, rfl, fun j u hu => by simp [opsCells] at hu⟩
  · injection hcs with hcs; injection hcs with e1 e2 e3
    subst e1; subst e2; subst e3
    rw [cells_op] at hel
    have hle : len ≤ m := by rw [hm]; split <;> omega
    have hS : ∀ i, i < len → ∃ s : OpV, ∀ q, q < 4 → W.cell? ((ad.add (i * 4)).add q) = s.cells[q]? := fun i hi => by
      obtain ⟨cs', h1, h2⟩ := hel i (by omega)
      obtain ⟨s, rfl⟩ := open_op_cells h2
      exact ⟨s, (World.cells?_some h1).2.2⟩
    haveI : Inhabited OpV := ⟨⟨0, 0, 0, 0⟩⟩
    obtain ⟨f, hf⟩ := choose_lt hS
    refine ⟨(List.range len).map f, some ad, cap, by simp, fun j u hu => ?_⟩
    have hj : j < len * 4 := by
      have := (List.getElem?_eq_some_iff.1 hu).1
      rwa [opsCells_length, List.length_map, List.length_range] at this
    have hi : j / 4 < len := by omega
    have hat : ((List.range len).map f)[j / 4]? = some (f (j / 4)) := by rw [List.getElem?_map, range_at' _ _ hi]; rfl
    have hc := opsCells_at hat (j % 4) (by omega)
    rw [show j / 4 * 4 + j % 4 = j by omega, hu] at hc
    have hq := hf (j / 4) hi (j % 4) (by omega)
    rw [add_add', show j / 4 * 4 + j % 4 = j by omega, ← hc] at hq
    have := World.block_lt_of_cell? W _ hq
    rw [add_block] at this
    exact ⟨ad, rfl, Nat.zero_le _, this, hq⟩
end
section
variable {H : Type} {enc : TypeId × Value → H} {P : Program}
/-- The end of a law's row: what is known of the world behind the call is that nothing below the old heap's end has turned. -/
theorem post_of_below_at {f : Func} {s : ChangeSpec} {apart fresh handsOn : Bool} {W W' : World} {args : Array Value} {v : Value} {ds gs : List (DataW H)} {before pa pv : List MemPlace}
    (hW : DataW.Whole enc P f.params.toList s.vars apart W args.toList ds gs before)
    (hres : ∀ (b : Nat) (sp : Nat → Bool) (hd : Bool), DataW.TrodAll enc P W' b sp hd f.resultTypes.toList (v.resultList f.resultTypes.size) (s.fn H (ds ++ gs)).results [])
    (hargs : DataW.TrodAll enc P W' 0 (fun b => decide (b < W.heap.size)) true f.params.toList args.toList (s.fn H (ds ++ gs)).args pa)
    (hvars : ∀ sp : Nat → Bool, (∀ p ∈ before, sp p.block = true) → DataW.TrodVars enc P W' sp s.vars (s.fn H (ds ++ gs)).vars pv)
    (hps : before = pa ++ pv) (hb : Below W.heap.size W W') :
    s.post enc P f apart fresh handsOn false W args v W' := by
  have hlt : ∀ p ∈ before, p.block < W.heap.size := fun p hp => hW.lt p hp
  have hold : ∀ p ∈ before, (fun b => decide (b < W.heap.size)) p.block = true := fun p hp => by simpa using hlt p hp
  refine ⟨ds, gs, before, [], pa, pv, hW, hres _ _ _, hargs, hvars _ hold, World.keptBut_mono (fun p hp => ⟨hp, ?_⟩) (hb.frame (· ∈ before)), fun h => by cases h⟩
  rw [hps, List.mem_append] at hp
  exact Or.inr hp
end
end Go.Proofs.Ytdjmjdfkblhgdaa
