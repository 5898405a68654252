/- How the laws' arguments and the listed table are read: a set as four words, a list of sets as a row of words. -/
import Derived.Test.YtccbfcnnbdgcgaaDoorAwake
import Derived.Test.YtccbfcnnbdgcgaaDoorCards
import Derived.Test.YtccbfcnnbdgcgaaDoorTie
import Derived.WalkKit
import Derived.ProofKit
import Derived.OpenShut
import Derived.Deep.DeepHandedRow
import Derived.Deep.Slices
import Derived.Lib.LaidTab
import Derived.Laws.IdiomArrays
namespace Go.Proofs.YtccbfcnnbdgcgaaDoor
open Go.ChangeShapes Go.WideShapes Go.ChangeAt Go.RowKit Go.Deep

theorem ownKnob_none : ownKnob Tryd.prog.godebug = none := by kernel_rfl
theorem laid_out : laidOutB Tryd.prog = true := by kernel_rfl
theorem g_tab : Tryd.prog.globalNamed "math/bits.deBruijn64tab" = some 0 := by kernel_rfl
theorem g_tab_type : (Tryd.prog.globals[0]?).map (·.type) = some 61 := by kernel_rfl
theorem cells_tab : Tryd.prog.cellsOf 61 = 64 := by kernel_rfl
theorem cells_u8 : Tryd.prog.cellsOf 5 = 1 := by kernel_rfl
theorem cells_u64 : Tryd.prog.cellsOf 33 = 1 := by kernel_rfl
theorem cells_set : Tryd.prog.cellsOf 35 = 4 := by kernel_rfl
theorem under_tab : Tryd.prog.underlying 61 = some (.array 64 5) := by kernel_rfl
theorem under_sets : Tryd.prog.underlying 22 = some (.slice 35) := by kernel_rfl
def tabInts : List Int := Lib.deBruijn64tab.map Int.ofNat
set_option maxRecDepth 100000 in
theorem tab_at {W : World} (h : laidMetH Tryd.prog [("math/bits.deBruijn64tab", Rows.laid_math_bits_deBruijn64tab)] W) : TabAt W := by
  have ht : Lib.TabIs Tryd.prog W "math/bits.deBruijn64tab" .u8 tabInts := Lib.tabIs_of_head (rest := []) g_tab g_tab_type under_tab under_u8 cells_u8 cells_tab h
  intro j hj
  have := ht.cell g_tab j (by simpa [tabInts] using hj)
  rw [this]
  simp [tabInts, List.getD_eq_getElem?_getD, List.getElem?_map, List.getElem?_eq_getElem hj]
section
variable {H : Type} {enc : TypeId × Value → H} {W : World} {base : Nat} {sp : Nat → Bool} {hd : Bool}
theorem open_set_cells {n : Nat} {cs : List Value} {x : DataW H × List MemPlace} (h : DataW.trod enc Tryd.prog W base sp hd n 35 cs = some x) : ∃ s : S4, cs = s.cells.toList := by
  obtain ⟨_, _, _, _, hlen, _, _⟩ := DataW.trod_array under_set h
  rw [cells_set] at hlen
  match cs, hlen with
  | [c0, c1, c2, c3], _ =>
    obtain ⟨_, _, _, _, _, _, h0, h1, h2, h3⟩ := trod_array4 under_set cells_u64 h
    obtain ⟨z0, e0, _, w0⟩ := DataW.trod_int under_u64 h0
    obtain ⟨z1, e1, _, w1⟩ := DataW.trod_int under_u64 h1
    obtain ⟨z2, e2, _, w2⟩ := DataW.trod_int under_u64 h2
    obtain ⟨z3, e3, _, w3⟩ := DataW.trod_int under_u64 h3
    have f : ∀ z : Int, (Lit.int .u64 z).wf = true → z = ((UInt64.ofNat z.toNat).toNat : Int) := fun z hz => by
      have := bounds_u64 hz
      rw [UInt64.toNat_ofNat_of_lt' (by simp [UInt64.size]; omega)]
      omega
    injection e0 with e0; injection e1 with e1; injection e2 with e2; injection e3 with e3
    subst e0; subst e1; subst e2; subst e3
    exact ⟨⟨.ofNat z0.toNat, .ofNat z1.toNat, .ofNat z2.toNat, .ofNat z3.toNat⟩, by simp only [← f _ w0, ← f _ w1, ← f _ w2, ← f _ w3]⟩
theorem open_set {r : Reach} {b0 : Nat} {v : Value} {d : DataW H} {ps : List MemPlace} (hv : Value.okWide Tryd.prog W r b0 35 v) (h : DataW.Trod enc Tryd.prog W base sp hd 35 v d ps) : ∃ s : S4, v = s.val := by
  simp only [Value.okWide, under_set] at hv
  obtain ⟨cs, rfl, _, _⟩ := hv
  obtain ⟨n, h⟩ := h
  obtain ⟨s, hs⟩ := open_set_cells h
  exact ⟨s, by simp only [Value.cells] at hs; simp only [S4.val]; congr 1; exact Array.toList_inj.1 hs⟩
theorem open_sets {r : Reach} {b0 : Nat} {v : Value} {d : DataW H} {ps : List MemPlace} (hv : Value.okWide Tryd.prog W r b0 22 v) (h : DataW.Trod enc Tryd.prog W base sp hd 22 v d ps) :
    ∃ (l : List S4) (A : Option Addr) (c : Nat), v = .slice A l.length c ∧ RowAt W 0 W.heap.size A (setsCells l) := by
  obtain ⟨a, len, cap, rfl⟩ := okWide_slice under_sets hv
  obtain ⟨n, h⟩ := h
  rcases open_slice under_sets h with ⟨hcs, _⟩ | ⟨ad, len', cap', m, n', D, Pl, hcs, _, hlc, _, hm, _, hel⟩
  · injection hcs with hcs; injection hcs with e1 e2 e3
    subst e1; subst e2; subst e3
    exact ⟨[], none, 0, rfl, fun j u hu => by simp [setsCells] at hu⟩
  · injection hcs with hcs; injection hcs with e1 e2 e3
    subst e1; subst e2; subst e3
    rw [cells_set] at hel
    have hle : len ≤ m := by rw [hm]; split <;> omega
    have hS : ∀ i, i < len → ∃ s : S4, ∀ q, q < 4 → W.cell? ((ad.add (i * 4)).add q) = s.cells.toList[q]? := fun i hi => by
      obtain ⟨cs', h1, h2⟩ := hel i (by omega)
      obtain ⟨s, rfl⟩ := open_set_cells h2
      exact ⟨s, (World.cells?_some h1).2.2⟩
    haveI : Inhabited S4 := ⟨S4.zero⟩
    obtain ⟨f, hf⟩ := choose_lt hS
    refine ⟨(List.range len).map f, some ad, cap, by simp, fun j u hu => ?_⟩
    have hj : j < len * 4 := by
      have := (List.getElem?_eq_some_iff.1 hu).1
      rwa [setsCells_length, List.length_map, List.length_range] at this
    have hi : j / 4 < len := by omega
    have hat : ((List.range len).map f)[j / 4]? = some (f (j / 4)) := by rw [List.getElem?_map, range_at _ _ hi]; rfl
    have hc := setsCells_at hat (j % 4) (by omega)
    rw [show j / 4 * 4 + j % 4 = j by omega, hu] at hc
    have hq := hf (j / 4) hi (j % 4) (by omega)
    rw [add_add', show j / 4 * 4 + j % 4 = j by omega, ← hc] at hq
    have := World.block_lt_of_cell? W _ hq
    rw [add_block] at this
    exact ⟨ad, rfl, Nat.zero_le _, this, hq⟩
end
section
variable {H : Type} {enc : TypeId × Value → H} {P : Program}
/-- The end of a law's row: what is known of the world behind the call is that nothing below the old heap's end has turned. -/
theorem post_of_below_at {f : Func} {s : ChangeSpec} {apart fresh handsOn : Bool} {W W' : World} {args : Array Value} {v : Value} {ds gs : List (DataW H)} {before pa pv : List MemPlace}
    (hW : DataW.Whole enc P f.params.toList s.vars apart W args.toList ds gs before)
    (hres : ∀ (b : Nat) (sp : Nat → Bool) (hd : Bool), DataW.TrodAll enc P W' b sp hd f.resultTypes.toList (v.resultList f.resultTypes.size) (s.fn H (ds ++ gs)).results [])
    (hargs : DataW.TrodAll enc P W' 0 (fun b => decide (b < W.heap.size)) true f.params.toList args.toList (s.fn H (ds ++ gs)).args pa)
    (hvars : ∀ sp : Nat → Bool, (∀ p ∈ before, sp p.block = true) → DataW.TrodVars enc P W' sp s.vars (s.fn H (ds ++ gs)).vars pv)
    (hps : before = pa ++ pv) (hb : Below W.heap.size W W') :
    s.post enc P f apart fresh handsOn false W args v W' := by
  have hlt : ∀ p ∈ before, p.block < W.heap.size := fun p hp => hW.lt p hp
  have hold : ∀ p ∈ before, (fun b => decide (b < W.heap.size)) p.block = true := fun p hp => by simpa using hlt p hp
  refine ⟨ds, gs, before, [], pa, pv, hW, hres _ _ _, hargs, hvars _ hold, World.keptBut_mono (fun p hp => ⟨hp, ?_⟩) (hb.frame (· ∈ before)), fun h => by cases h⟩
  rw [hps, List.mem_append] at hp
  exact Or.inr hp
end
/-- A world for the witnesses: the settled one, the table holding what its initialiser lays. -/
noncomputable def laidWorld (os : Os) : World :=
  { World.holding Tryd.prog os ⟨#[], #[], []⟩ with heap := (World.holding Tryd.prog os ⟨#[], #[], []⟩).heap.modify 0 fun
      | .cells _ t frozen => .cells (tabInts.map fun z => Value.int .u8 z).toArray t frozen
      | o => o }
end Go.Proofs.YtccbfcnnbdgcgaaDoor
