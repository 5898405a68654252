/- What cutting into classes computes: the numbering of parts by their least bytes, and the cut itself. -/
import Derived.Test.YtccbfcnnbdgcgaaDoorRanges
import Derived.Deep.Cut
import Derived.Deep.RegionLaw
import Derived.Maps.OwnOps
import Derived.Maps.Own
namespace Go.Proofs.YtccbfcnnbdgcgaaDoor
open Go.RowKit
attribute [local go_sem] S4.val

/-- The cells of some sets. -/
def setsCells (l : List S4) : List Value := l.flatMap fun s => s.cells.toList
theorem setsCells_length (l : List S4) : (setsCells l).length = l.length * 4 := by
  induction l with
  | nil => rfl
  | cons s l ih => simp only [setsCells, List.flatMap_cons, List.length_append] at ih ⊢; rw [ih]; simp; omega
theorem setsCells_append (l m : List S4) : setsCells (l ++ m) = setsCells l ++ setsCells m := by simp [setsCells]
theorem setsCells_at {l : List S4} {i : Nat} {s : S4} (h : l[i]? = some s) (j : Nat) (hj : j < 4) : (setsCells l)[i * 4 + j]? = s.cells.toList[j]? := by
  induction l generalizing i with
  | nil => simp at h
  | cons t l ih =>
    have e : setsCells (t :: l) = t.cells.toList ++ setsCells l := by simp [setsCells]
    rw [e]
    cases i with
    | zero =>
      simp at h; subst h
      rw [List.getElem?_append_left (by simp; omega)]; simp
    | succ i =>
      rw [List.getElem?_append_right (by simp; omega)]
      have := ih (i := i) (by simpa using h)
      rw [← this]
      congr 1; simp; omega
theorem setsCells_one (l : List S4) : (setsCells l).all Value.oneCell' = true := by
  rw [List.all_eq_true]
  intro v hv
  obtain ⟨s, _, hs⟩ := List.mem_flatMap.1 hv
  simp at hs
  rcases hs with rfl | rfl | rfl | rfl <;> rfl
/-- The cells of a Parts. -/
def pcells (r : Nat → Nat) (v : Value) : Array Value := ((List.range 256).map (fun x => Value.int .u8 (r x)) ++ [v]).toArray
/-- The cells of an array of 256 numbers. -/
def ocells (f : Nat → Nat) : Array Value := ((List.range 256).map fun x => Value.int .i64 (f x)).toArray
theorem pcells_size (r : Nat → Nat) (v : Value) : (pcells r v).size = 257 := by simp [pcells]
theorem ocells_size (f : Nat → Nat) : (ocells f).size = 256 := by simp [ocells]
theorem range_at (n x : Nat) (h : x < n) : (List.range n)[x]? = some x := by simp [h]
theorem pcells_at (r : Nat → Nat) (v : Value) (x : Nat) (h : x < 256) : (pcells r v)[x]? = some (.int .u8 (r x)) := by
  unfold pcells
  rw [List.getElem?_toArray, List.getElem?_append_left (by simpa using h), List.getElem?_map, range_at _ _ h]; rfl
theorem pcells_last (r : Nat → Nat) (v : Value) : (pcells r v)[256]? = some v := by
  unfold pcells
  rw [List.getElem?_toArray, List.getElem?_append_right (by simp)]; simp
theorem ocells_at (f : Nat → Nat) (x : Nat) (h : x < 256) : (ocells f)[x]? = some (.int .i64 (f x)) := by
  unfold ocells
  rw [List.getElem?_toArray, List.getElem?_map, range_at _ _ h]; rfl
theorem ocells_set (f : Nat → Nat) (x y : Nat) (h : x < 256) : (ocells f).setIfInBounds x (.int .i64 (y : Int)) = ocells fun z => if z = x then y else f z := by
  apply Array.ext_getElem?
  intro j
  rw [Array.getElem?_setIfInBounds]
  by_cases hj : j < 256
  · rw [ocells_at _ _ hj]
    by_cases e : x = j
    · subst e; rw [if_pos rfl, if_pos (by rw [ocells_size]; exact h), ocells_at _ _ hj, if_pos rfl]
    · rw [if_neg e, ocells_at _ _ hj, if_neg (fun h => e h.symm)]
  · rw [Array.getElem?_eq_none (by rw [ocells_size]; omega), if_neg (by omega), Array.getElem?_eq_none (by rw [ocells_size]; omega)]
theorem pcells_set (r : Nat → Nat) (v : Value) (x y : Nat) (h : x < 256) : (pcells r v).setIfInBounds x (.int .u8 (y : Int)) = pcells (fun z => if z = x then y else r z) v := by
  apply Array.ext_getElem?
  intro j
  rw [Array.getElem?_setIfInBounds]
  by_cases hj : j < 256
  · rw [pcells_at _ _ _ hj]
    by_cases e : x = j
    · subst e; rw [if_pos rfl, if_pos (by rw [pcells_size]; omega), pcells_at _ _ _ hj, if_pos rfl]
    · rw [if_neg e, pcells_at _ _ _ hj, if_neg (fun h => e h.symm)]
  · rw [if_neg (by omega)]
    by_cases e : j = 256
    · subst e; rw [pcells_last, pcells_last]
    · rw [Array.getElem?_eq_none (by rw [pcells_size]; omega), Array.getElem?_eq_none (by rw [pcells_size]; omega)]
theorem pcells_setv (r : Nat → Nat) (v u : Value) : (pcells r v).setIfInBounds 256 u = pcells r u := by
  apply Array.ext_getElem?
  intro j
  rw [Array.getElem?_setIfInBounds]
  by_cases hj : j < 256
  · rw [if_neg (by omega), pcells_at _ _ _ hj, pcells_at _ _ _ hj]
  · by_cases e : j = 256
    · subst e; rw [if_pos rfl, if_pos (by rw [pcells_size]; omega), pcells_last]
    · rw [if_neg (by omega), Array.getElem?_eq_none (by rw [pcells_size]; omega), Array.getElem?_eq_none (by rw [pcells_size]; omega)]
theorem ocells_one (f : Nat → Nat) : ∀ v ∈ (ocells f).toList, v.oneCell' = true := by
  intro v hv
  unfold ocells at hv
  simp at hv
  obtain ⟨a, _, rfl⟩ := hv
  rfl
theorem ocells_congr {f g : Nat → Nat} (h : ∀ x, x < 256 → f x = g x) : ocells f = ocells g := by
  unfold ocells
  congr 1
  apply List.map_congr_left
  intro x hx
  rw [h x (List.mem_range.1 hx)]
theorem pcells_congr {f g : Nat → Nat} (h : ∀ x, x < 256 → f x = g x) (v : Value) : pcells f v = pcells g v := by
  unfold pcells
  congr 2
  apply List.map_congr_left
  intro x hx
  rw [h x (List.mem_range.1 hx)]

/-- A Parts in memory. -/
def PartsAt (w : World) (B p : Nat) (r : Nat → Nat) (ss : List S4) : Prop :=
  B ≤ p ∧ ∃ A c, w.heap[p]? = some (.cells (pcells r (.slice A ss.length c)) 53 (0, 0)) ∧ w.ownsRow B 35 4 (.slice A ss.length c) ss.length (setsCells ss)
theorem PartsAt.below {w w1 : World} {B p : Nat} {r : Nat → Nat} {ss : List S4} (h : PartsAt w B p r ss) (hb : Below w.heap.size w w1) : PartsAt w1 B p r ss := by
  obtain ⟨h1, A, c, h2, h3⟩ := h
  exact ⟨h1, A, c, blk_below h2 hb, own_below h3 hb⟩
def NumberPost (sets : List S4) (w : World) (e : Ending) (w' : World) : Prop :=
  ∃ p, e = .returned (.pointer (some ⟨p, 0, none⟩)) ∧ PartsAt w' w.heap.size p (num (ofFn sets)) ((firsts (ofFn sets) 256).map fun i => sets.getD i S4.zero) ∧ Below w.heap.size w w'
theorem zero_parts (w : World) : (zeroValue 53).run Tryd.prog w = .ok (.agg (pcells (fun _ => 0) (.slice none 0 0))) w := by kernel_rfl
theorem zero_ints (w : World) : (zeroValue 26).run Tryd.prog w = .ok (.agg (ocells fun _ => 0)) w := by kernel_rfl
theorem alloc_ints (w : World) : (Instr.alloc 26 true (.tuple #[])).run Tryd.prog w = .ok (.pointer (some ⟨w.heap.size, 0, none⟩)) (w.alloc (.cells (ocells fun _ => 0) 26)) := by kernel_rfl
theorem size_ints : (Tryd.prog.info? 26).map (·.size) = some 256 := by kernel_rfl
theorem size_set : (Tryd.prog.info? 35).map (·.size) = some 4 := by kernel_rfl
theorem size_pair : (Tryd.prog.info? 57).map (·.size) = some 2 := by kernel_rfl
theorem under_ints : Tryd.prog.underlying 26 = some (.array 256 3) := by kernel_rfl
theorem under_set : Tryd.prog.underlying 35 = some (.array 4 33) := by kernel_rfl
theorem under_pair : Tryd.prog.underlying 57 = some (.array 2 5) := by kernel_rfl
theorem row_set {w : World} {L B : Nat} {A : Option Addr} {l : List S4} (h : RowAt w L B A (setsCells l)) {i : Nat} {s : S4} (hi : l[i]? = some s) :
    ∃ ad, A = some ad ∧ L ≤ ad.block ∧ ad.block < B ∧ ∀ j v, s.cells.toList[j]? = some v → w.cell? ((ad.add (i * 4)).add j) = some v :=
  h.elem (i * 4) s.cells.toList (fun j hj => setsCells_at hi j (by simpa using hj)) (by simp)
theorem pairCells_at {l : List (Nat × Nat)} {i : Nat} {p : Nat × Nat} (h : l[i]? = some p) (j : Nat) (hj : j < 2) : (pairCells l)[i * 2 + j]? = [Value.int .u8 (p.1 : Int), .int .u8 (p.2 : Int)][j]? := by
  induction l generalizing i with
  | nil => simp at h
  | cons t l ih =>
    have e : pairCells (t :: l) = [Value.int .u8 (t.1 : Int), .int .u8 (t.2 : Int)] ++ pairCells l := by simp [pairCells]
    rw [e]
    cases i with
    | zero =>
      simp at h; subst h
      rw [List.getElem?_append_left (by simp; omega)]; simp
    | succ i =>
      rw [List.getElem?_append_right (by simp; omega)]
      have := ih (i := i) (by simpa using h)
      rw [← this]
      congr 1; simp; omega
theorem row_pair {w : World} {L B : Nat} {A : Option Addr} {l : List (Nat × Nat)} (h : RowAt w L B A (pairCells l)) {i : Nat} {p : Nat × Nat} (hi : l[i]? = some p) :
    ∃ ad, A = some ad ∧ L ≤ ad.block ∧ ad.block < B ∧ ∀ j v, [Value.int .u8 (p.1 : Int), .int .u8 (p.2 : Int)][j]? = some v → w.cell? ((ad.add (i * 2)).add j) = some v :=
  h.elem (i * 2) _ (fun j hj => pairCells_at hi j (by simpa using hj)) (by simp)
/-- Of the bytes those that some ranges hold. -/
def inAny (l : List (Nat × Nat)) (x : Nat) : Bool := l.any fun p => decide (p.1 ≤ x) && decide (x ≤ p.2)
theorem ofGo_last (l : List S4) (s : S4) : ∀ (i : Nat) (f : Nat → Nat), ofGo (l ++ [s]) i f = fun x => if s.has x then i + l.length else ofGo l i f x := by
  induction l with
  | nil => intro i f; rfl
  | cons t l ih =>
    intro i f
    show ofGo (l ++ [s]) (i + 1) _ = _
    rw [ih]
    funext x
    show (if s.has x = true then i + 1 + l.length else _) = if s.has x = true then i + (l.length + 1) else _
    rw [show i + 1 + l.length = i + (l.length + 1) by omega]
    rfl
theorem ofGo_snoc (sets : List S4) (n : Nat) (h : n < sets.length) : ofGo (sets.take (n + 1)) 0 (fun _ => 0) = fun x => if sets[n].has x then n else ofGo (sets.take n) 0 (fun _ => 0) x := by
  rw [List.take_succ_eq_append_getElem h, ofGo_last]
  simp [Nat.min_eq_left (Nat.le_of_lt h)]
structure N1 (sets : List S4) (w : World) (F : Nat → Nat) (wr : World) : Prop where
  p : wr.heap[w.heap.size]? = some (.cells (pcells (fun _ => 0) (.slice none 0 0)) 53 (0, 0))
  of : wr.heap[w.heap.size + 1]? = some (.cells (ocells F) 26 (0, 0))
  b : Below w.heap.size w wr
theorem N1.below {sets : List S4} {w : World} {F : Nat → Nat} {wr w1 : World} (h : N1 sets w F wr) (hb : Below wr.heap.size wr w1) : N1 sets w F w1 := ⟨blk_below h.p hb, blk_below h.of hb, below_seq h.b hb h.b.size⟩
theorem N1.alloc {sets : List S4} {w : World} {F : Nat → Nat} {wr : World} (h : N1 sets w F wr) (o : Obj) : N1 sets w F (wr.alloc o) := h.below ((Below.refl _ _).alloc (Nat.le_refl _) o)
theorem N1.store {sets : List S4} {w : World} {F : Nat → Nat} {wr : World} (h : N1 sets w F wr) (x y : Nat) (hx : x < 256) :
    N1 sets w (fun z => if z = x then y else F z) (wr.setCell ⟨w.heap.size + 1, x, none⟩ (.int .i64 (y : Int))) := by
  refine ⟨(Below.heap_setCell _ _ _ _ (by simp)).trans h.p, ?_, h.b.setCell (by simp) _⟩
  rw [heap_setCell_same wr _ x _ _ _ h.of, ocells_set _ _ _ hx]
theorem N1.congr {sets : List S4} {w : World} {F G : Nat → Nat} {wr : World} (h : N1 sets w F wr) (hFG : ∀ x, x < 256 → F x = G x) : N1 sets w G wr :=
  ⟨h.p, by rw [← ocells_congr hFG]; exact h.of, h.b⟩
/-- While a range's bytes are noted: those below k are. -/
def R3 (sets : List S4) (w w2 : World) (n lo hi : Nat) (F : Nat → Nat) (b : Value) (w3 : World) : Prop := ∃ k : Nat, lo ≤ k ∧ k ≤ hi + 1 ∧ b = .int .i64 (k : Int) ∧
  w3.heap[w2.heap.size]? = some (.cells #[.int .u8 (lo : Int), .int .u8 (hi : Int)] 57 (0, 0)) ∧ N1 sets w (fun x => if decide (lo ≤ x) && decide (x < k) then n else F x) w3
/-- The classes' keys and numbers, as the map holds them. -/
def kl (l : List Nat) : List (Int × Value) := l.zipIdx.map fun p => ((p.1 : Int), Value.int .i64 (p.2 : Int))
theorem kl_length (l : List Nat) : (kl l).length = l.length := by simp [kl]
theorem kl_at (l : List Nat) (i : Nat) : (kl l)[i]? = (l[i]?).map fun (k : Nat) => ((k : Int), Value.int .i64 (i : Int)) := by
  unfold kl
  rw [List.getElem?_map, List.getElem?_zipIdx]
  cases l[i]? <;> simp
theorem kl_in {l : List Nat} {k : Nat} (h : k ∈ l) : lookI (kl l) (k : Int) = some (.int .i64 (l.idxOf k : Int)) := by
  have hlt := List.idxOf_lt_length_of_mem h
  have hg : l[l.idxOf k]? = some k := by rw [List.getElem?_eq_getElem hlt]; exact congrArg some (List.getElem_idxOf _)
  have := findI_at (l := kl l) (k := (k : Int)) (v := .int .i64 (l.idxOf k : Int)) (i := l.idxOf k) (by rw [kl_at, hg]; rfl)
    (fun m hm p hp e => by
      rw [kl_at] at hp
      obtain ⟨q, hq, rfl⟩ := Option.map_eq_some_iff.1 hp
      simp only at e
      obtain rfl : k = q := by omega
      have hne := List.not_of_lt_findIdx (p := (· == k)) (xs := l) (i := m) hm
      obtain ⟨_, hq⟩ := List.getElem?_eq_some_iff.1 hq
      simp [hq] at hne) 0
  unfold lookI
  rw [this]; rfl
theorem kl_out {l : List Nat} {k : Nat} (h : k ∉ l) : lookI (kl l) (k : Int) = none ∧ ∀ v, putI (kl l) (k : Int) v = kl l ++ [((k : Int), v)] := by
  have := findI_none (l := kl l) (k := (k : Int)) (fun p hp e => by
    obtain ⟨i, hi⟩ := List.mem_iff_getElem?.1 hp
    rw [kl_at] at hi
    obtain ⟨q, hq, rfl⟩ := Option.map_eq_some_iff.1 hi
    simp only at e
    obtain rfl : k = q := by omega
    exact h (List.mem_of_getElem? hq)) 0
  exact ⟨by unfold lookI; rw [this]; rfl, fun v => by unfold putI; rw [this]⟩
theorem kl_snoc (l : List Nat) (k : Nat) : kl (l ++ [k]) = kl l ++ [((k : Int), .int .i64 (l.length : Int))] := by
  unfold kl
  rw [List.zipIdx_append]
  simp
def R1 (sets : List S4) (w : World) (i : Value) (wr : World) : Prop := ∃ n : Nat, n ≤ sets.length ∧ i = .int .i64 (n : Int) ∧ N1 sets w (ofGo (sets.take n) 0 fun _ => 0) wr
theorem under_map : Tryd.prog.underlying 58 = some (.map 3 3) := by kernel_rfl
theorem under_int : Tryd.prog.underlying 3 = some (.int .i64) := by kernel_rfl
theorem zero_int (w : World) : (zeroValue 3).run Tryd.prog w = .ok (.int .i64 0) w := by kernel_rfl
theorem size_int : (Tryd.prog.info? 3).map (·.size) = some 1 := by kernel_rfl
theorem info_set : (Tryd.prog.info? 35).map (fun i => (i.zero, i.size, i.bytes)) = some (some (.agg #[.int .u64 0, .int .u64 0, .int .u64 0, .int .u64 0]), 4, 32) := by kernel_rfl
/-- While the classes are numbered: those of the bytes below x are. -/
structure N4 (sets : List S4) (w : World) (mb x : Nat) (A : Option Addr) (c : Nat) (w5 : World) : Prop where
  p : w5.heap[w.heap.size]? = some (.cells (pcells (fun z => if z < x then num (ofFn sets) z else 0) (.slice A (firsts (ofFn sets) x).length c)) 53 (0, 0))
  own : w5.ownsRow (w.heap.size + 1) 35 4 (.slice A (firsts (ofFn sets) x).length c) (firsts (ofFn sets) x).length (setsCells ((firsts (ofFn sets) x).map fun i => sets.getD i S4.zero))
  m : MapI w5 mb (kl (firsts (ofFn sets) x))
  b : Below w.heap.size w w5
def R4 (sets : List S4) (w : World) (mb : Nat) (b : Value) (w5 : World) : Prop := ∃ (x : Nat) (A : Option Addr) (c : Nat), x ≤ 256 ∧ b = .int .i64 (x : Int) ∧ N4 sets w mb x A c w5
theorem num_step (f : Nat → Nat) (x k : Nat) (hk : k = num f x) : ∀ z, z < 256 → (if z = x then k else if z < x then num f z else 0) = if z < x + 1 then num f z else 0 := by
  intro z _
  by_cases e : z = x
  · subst e; rw [if_pos rfl, if_pos (Nat.lt_succ_self _), hk]
  · rw [if_neg e]
    by_cases h : z < x
    · rw [if_pos h, if_pos (Nat.lt_succ_of_lt h)]
    · rw [if_neg h, if_neg (fun h' => h (by omega))]
theorem N4.next_in {sets : List S4} {w : World} {mb x : Nat} {A : Option Addr} {c : Nat} {w5 : World} (h : N4 sets w mb x A c w5) (hx : x < 256) (hm : ofFn sets x ∈ firsts (ofFn sets) x) :
    R4 sets w mb (.int .i64 ((x : Int) + 1)) (w5.setCell ⟨w.heap.size, x, none⟩ (.int .u8 ((firsts (ofFn sets) x).idxOf (ofFn sets x) : Int))) := by
  have hf : firsts (ofFn sets) (x + 1) = firsts (ofFn sets) x := by rw [firsts_succ, if_pos hm]
  have hn : num (ofFn sets) x = (firsts (ofFn sets) x).idxOf (ofFn sets x) := by
    unfold num
    rw [idx_firsts_mono _ (x + 1) 256 x (by omega) (by omega), hf]
  refine ⟨x + 1, A, c, by omega, by congr 1, ?_, ?_, ?_, h.b.setCell (Nat.le_refl _) _⟩
  · rw [heap_setCell_same w5 _ x _ _ _ h.p, pcells_set _ _ _ _ hx, hf]
    rw [pcells_congr (num_step _ x _ hn.symm)]
  · rw [hf]
    exact ownsRow_setCell_below h.own (by simp) _
  · rw [hf]
    exact h.m.far (by have := h.b; intro e; have h1 := h.p; obtain ⟨es, cl, hb, _⟩ := h.m; subst e; rw [h1] at hb; cases hb) _
theorem N4.next_out {sets : List S4} {w : World} {mb x : Nat} {A : Option Addr} {c : Nat} {w5 : World} (_h : N4 sets w mb x A c w5) (hx : x < 256) (hm : ofFn sets x ∉ firsts (ofFn sets) x)
    (hput : ∀ v, putI (kl (firsts (ofFn sets) x)) (ofFn sets x : Int) v = kl (firsts (ofFn sets) x) ++ [((ofFn sets x : Int), v)]) {s : S4} (hs : sets[ofFn sets x]? = some s) {w6 w7 : World}
    (hm6 : MapI w6 mb (putI (kl (firsts (ofFn sets) x)) (ofFn sets x : Int) (.int .i64 ((firsts (ofFn sets) x).length : Int))))
    (hp6 : w6.heap[w.heap.size]? = some (.cells (pcells (fun z => if z < x then num (ofFn sets) z else 0) (.slice A (firsts (ofFn sets) x).length c)) 53 (0, 0)))
    (hB6 : Below w.heap.size w w6)
    (hown6 : w6.ownsRow (w.heap.size + 1) 35 4 (.slice A (firsts (ofFn sets) x).length c) (firsts (ofFn sets) x).length (setsCells ((firsts (ofFn sets) x).map fun i => sets.getD i S4.zero)))
    (hg7 : w6.drew.grownBy w7 (Value.slice A (firsts (ofFn sets) x).length c).ownBlock) {A7 : Option Addr} {n7 : Nat}
    (hown7 : w7.ownsRow (w.heap.size + 1) 35 4 (.slice A7 ((firsts (ofFn sets) x).length + 1) n7) ((firsts (ofFn sets) x).length + 1) (setsCells ((firsts (ofFn sets) x).map fun i => sets.getD i S4.zero) ++ s.cells.toList)) :
    R4 sets w mb (.int .i64 ((x : Int) + 1)) ((w7.setCell ⟨w.heap.size, 256, none⟩ (.slice A7 ((firsts (ofFn sets) x).length + 1) n7)).setCell ⟨w.heap.size, x, none⟩ (.int .u8 ((firsts (ofFn sets) x).length : Int))) := by
  have hf : firsts (ofFn sets) (x + 1) = firsts (ofFn sets) x ++ [ofFn sets x] := by rw [firsts_succ, if_neg hm]
  have hn : num (ofFn sets) x = (firsts (ofFn sets) x).length := by
    unfold num
    rw [idx_firsts_mono _ (x + 1) 256 x (by omega) (by omega), hf, List.idxOf_append, if_neg hm]
    simp
  have hmlt := hm6.lt
  have hp7 := blk_grown (w := w6.drew) hp6 hg7 (own_ne hown6 (by omega))
  have hm7 : MapI w7 mb _ := MapI.grown (w := w6.drew) hm6 hg7 (MapI.own_ne hm6 hown6)
  have hne : mb ≠ w.heap.size := by
    intro e
    subst e
    obtain ⟨es, cl, hb, _⟩ := hm6
    rw [hp6] at hb; cases hb
  refine ⟨x + 1, A7, n7, by omega, by congr 1, ?_, ?_, ?_, ?_⟩
  · have e1 := heap_setCell_same w7 _ 256 _ _ (.slice A7 ((firsts (ofFn sets) x).length + 1) n7) hp7
    rw [pcells_setv] at e1
    have e2 := heap_setCell_same _ _ x _ _ (.int .u8 ((firsts (ofFn sets) x).length : Int)) e1
    rw [e2, pcells_set _ _ _ _ hx, hf, List.length_append, List.length_singleton]
    rw [pcells_congr (num_step _ x _ hn.symm)]
  · rw [hf, List.length_append, List.length_singleton, List.map_append, setsCells_append]
    have e : setsCells (List.map (fun i => sets.getD i S4.zero) [ofFn sets x]) = s.cells.toList := by
      simp only [List.map_cons, List.map_nil, List.getD_eq_getElem?_getD, hs]
      simp [setsCells]
    rw [e]
    exact ownsRow_setCell_below (ownsRow_setCell_below hown7 (by simp) _) (by simp) _
  · rw [hf, kl_snoc]
    rw [hput] at hm7
    exact (hm7.far hne _).far hne _
  · exact (((show Below w.heap.size w w6.drew from hB6.drew).grown hg7 (Nat.le_of_lt (by have := blk_lt hp6; exact this)) (fun k hk => by have := own_row hown6 k hk; omega)).setCell (Nat.le_refl _) _).setCell (Nat.le_refl _) _
theorem add_one_addr (a : Addr) (j : Nat) (h : j ≠ 0) : a.add j = ⟨a.block, a.off + j, none⟩ := by unfold Addr.add; rw [if_neg h]
set_option maxRecDepth 100000 in
set_option maxHeartbeats 1000000 in
theorem number_any (sets : List S4) (hl : sets.length ≤ 256) (hof0 : ∀ b, b < 256 → ofFn sets b < sets.length) (A : Option Addr) (c : Nat) (w : World) (hrow : RowAt w 0 w.heap.size A (setsCells sets)) :
    Calls Tryd.prog 24 #[.slice A sets.length c] w (NumberPost sets w) := by
  obtain ⟨i0, hi, hz0, hz1, hz2⟩ := info_parts info_set
  have b1 := zero_parts
  have b2 := zero_ints
  have b3 := alloc_ints
  go_enter Tryd.func24, Tryd.ntmps24
  go_wp2_with ((with_reducible refine at_store 26 _ _ _ _ _ _ ?_); refine wpList_store_fresh rfl _ _ _ rfl (by simp [Act.eval]) _ _ _ rfl (ocells_one _) ?c1 ?c2 ?_)
  case c1 => rfl
  case c2 => rw [ocells_size]; exact size_ints
  go_loopw [20] (fun i wr => R1 sets w i wr) (fun i _ => sets.length - (intOf i).toNat)
  case atStart => exact ⟨0, Nat.zero_le _, rfl, blk_alloc (heap_alloc_new w _) _, by simpa [ofGo] using heap_alloc_new (w.alloc (.cells (pcells (fun _ => 0) (.slice none 0 0)) 53)) _, ((Below.refl _ _).alloc (Nat.le_refl _) _).alloc (by simp) _⟩
  case round =>
    obtain ⟨n, hn, rfl, hN⟩ := hrel
    by_cases hlt : n < sets.length
    · obtain ⟨ad, rfl, _, hbl, hcells⟩ := row_set (hrow.keep hN.b) (List.getElem?_eq_getElem hlt)
      have hc := Lib.hid hcells
      clear hcells
      go_wp2_with (first | ((with_reducible refine at_slot 24 _ _ _ _ _ ?_); refine wpList_load_at rfl _ _ rfl _ rfl sets[n].cells.toList hc.out _ under_set rfl size_set ?_) | (go_at_call 28; refine (ranges_any sets[n] _).mono ?_; rintro e w1 ⟨A1, c1, L, rfl, hcov, hrow1, hb1⟩))
      have hN1 := (hN.alloc (.cells sets[n].cells 35)).below hb1
      clear hc hbl
      have hwo := blk_lt hN.of
      have hll := hcov.len
      obtain ⟨wo, rfl⟩ : ∃ wo : World, wo = wr := ⟨_, rfl⟩
      go_loopw [28] (fun j wi => ∃ m : Nat, m ≤ L.length ∧ j = .int .i64 (m : Int) ∧ w1.heap.size ≤ wi.heap.size ∧ RowAt wi (wo.heap.size + 1) w1.heap.size A1 (pairCells L) ∧ N1 sets w (fun x => if inAny (L.take m) x then n else ofGo (sets.take n) 0 (fun _ => 0) x) wi) (fun j _ => L.length - (intOf j).toNat)
      case atStart => exact ⟨0, Nat.zero_le _, rfl, Nat.le_refl _, by simpa using hrow1, hN1⟩
      case round =>
        obtain ⟨m, hm, rfl, hwz, hrow2, hN2⟩ := hrel
        clear hN1 hrow1 hN
        by_cases hlt2 : m < L.length
        · obtain ⟨ad2, rfl, _, hbl2, hcells2⟩ := row_pair hrow2 (List.getElem?_eq_getElem hlt2)
          have hok := hcov.ok L[m] (List.getElem_mem hlt2)
          have hc2 := Lib.hid hcells2
          clear hcells2
          generalize hp : L[m] = p at *
          obtain ⟨lo, hi⟩ := p
          simp only at hok hc2
          have HP := Lib.hid hp
          clear hp
          go_wp2_with (first | ((with_reducible refine at_slot 31 _ _ _ _ _ ?_); refine wpList_load_at rfl _ _ rfl _ rfl [Value.int .u8 (lo : Int), .int .u8 (hi : Int)] hc2.out _ under_pair rfl size_pair ?_) | (fail))
          obtain ⟨w2, rfl⟩ : ∃ w2 : World, w2 = wr := ⟨_, rfl⟩
          have hbz := blk_lt hN2.of
          go_loopw [9] (fun b w3 => R3 sets w w2 n lo hi (fun x => if inAny (L.take m) x then n else ofGo (sets.take n) 0 (fun _ => 0) x) b w3 ∧ RowAt w3 (wo.heap.size + 1) w1.heap.size (some ad2) (pairCells L)) (fun b _ => hi + 1 - (intOf b).toNat)
          case atStart =>
            refine ⟨⟨lo, Nat.le_refl _, by omega, rfl, heap_alloc_new _ _, (hN2.alloc _).congr fun x _ => ?_⟩, hrow2.keep ((Below.refl _ _).alloc hwz _)⟩
            rw [show (decide (lo ≤ x) && decide (x < lo)) = false by simp]
            simp
          case round =>
            obtain ⟨⟨k, hk1, hk2, rfl, hb8, hN3⟩, hrow3⟩ := hrel
            clear hrow2 hN2
            have e1 : wr.cell? ⟨w2.heap.size, 1, none⟩ = some (.int .u8 (hi : Int)) := cell_of_row wr _ 1 _ _ _ hb8
            have hb8z := blk_lt hb8
            by_cases hlt3 : k ≤ hi
            · have hk256 : k < 256 := by omega
              have e2 : ∃ v, wr.cell? ⟨w.heap.size + 1, k, none⟩ = some v := ⟨_, (cell_of_row wr _ k _ _ _ hN3.of).trans (ocells_at _ _ hk256)⟩
              obtain ⟨v2, e2⟩ := e2
              have e3 : wr.frozen? ⟨w.heap.size + 1, k, none⟩ = false := frozen_of_row wr _ k _ _ hN3.of
              have HB8 := Lib.hid hb8
              clear hb8
              go_wp2
              go_roundw
              case rel =>
                refine ⟨⟨k + 1, by omega, by omega, by go_num, (Below.heap_setCell _ _ _ _ (by simp; omega)).trans HB8.out, (hN3.store k n hk256).congr fun x _ => ?_⟩, hrow3.far (.inl (by simp; omega)) _⟩
                by_cases hx : x = k
                · subst hx; simp; omega
                · rw [if_neg hx]
                  have : decide (x < k) = decide (x < k + 1) := by simp; omega
                  rw [this]
              case measure => simp [intOf]; omega
            · have hk : k = hi + 1 := by omega
              have HK := Lib.hid hk
              clear hk
              go_wp2
              go_roundw
              case rel =>
                refine ⟨m + 1, hlt2, by go_num, by omega, hrow3, hN3.congr fun x _ => ?_⟩
                have e : inAny (L.take (m + 1)) x = (inAny (L.take m) x || (decide (lo ≤ x) && decide (x ≤ hi))) := by
                  rw [List.take_succ_eq_append_getElem hlt2, HP.out]; simp [inAny]
                rw [e, HK.out, show decide (x < hi + 1) = decide (x ≤ hi) by simp; omega]
                dsimp only
                cases inAny (L.take m) x <;> cases (decide (lo ≤ x) && decide (x ≤ hi)) <;> simp
              case measure => simp [intOf]; omega
        · obtain rfl : m = L.length := by omega
          go_wp2
          go_roundw
          case rel =>
            refine ⟨n + 1, hlt, by go_num, hN2.congr fun x hx => ?_⟩
            rw [List.take_length, ofGo_snoc sets n hlt]
            have := hcov.has x hx
            have e : inAny L x = sets[n].has x := by
              rw [Bool.eq_iff_iff, this]
              simp [inAny]
            rw [e]
          case measure => simp [intOf]; omega
    · obtain rfl : n = sets.length := by omega
      rw [List.take_length] at hN
      have hof := hN.of
      have hp := Lib.hid hN.p
      have hB := hN.b
      have hz := blk_lt hN.of
      change wr.heap[w.heap.size + 1]? = some (.cells (ocells (ofFn sets)) 26 (0, 0)) at hof
      clear hN
      have hmm := @run_makeMap Tryd.prog
      have hof1 := blk_alloc hof (.map #[] 0)
      go_wp2_with ((with_reducible refine at_slot 48 _ _ _ _ _ ?_); refine wpList_load_row rfl _ _ rfl _ rfl _ _ _ _ hof1 under_ints rfl ?c3 ?_)
      case c3 => rw [ocells_size]; exact size_ints
      have hp0 : wr.heap[w.heap.size]? = some (.cells (pcells (fun z => if z < 0 then num (ofFn sets) z else 0) (.slice none (firsts (ofFn sets) 0).length 0)) 53 (0, 0)) := by
        rw [hp.out]; rfl
      have HP0 := Lib.hid hp0
      clear hp hp0 hof hof1
      obtain ⟨w4, rfl⟩ : ∃ w4 : World, w4 = wr := ⟨_, rfl⟩
      generalize hmb : w4.heap.size = mb
      have hmbz : w.heap.size + 1 < mb := by omega
      have HMB := Lib.hid hmb
      clear hmb
      go_loopw [49] (fun b w5 => R4 sets w mb b w5) (fun b _ => 256 - (intOf b).toNat)
      case atStart => exact ⟨0, none, 0, by omega, rfl, blk_alloc HP0.out _, World.ownsRow_nil _ _ _ _, by rw [← HMB.out]; exact MapI.new _, hB.alloc (by omega) _⟩
      case round =>
        obtain ⟨x, A1, c1, hx, rfl, hN⟩ := hrel
        clear HP0 hB
        by_cases hlt : x < 256
        · have hidx : ∀ w, (Instr.index 26 (.agg (ocells (ofFn sets))) (.int .i64 (x : Int))).run Tryd.prog w = .ok (.int .i64 (ofFn sets x)) w :=
            fun w => run_index_row _ _ 256 _ under_ints under_int rfl size_int _ _ x hlt _ (ocells_at _ _ hlt)
          have hfx := hof0 x hlt
          have hlen := length_firsts_le (ofFn sets) x
          have cx : wr.cell? ⟨w.heap.size, x, none⟩ = some (.int .u8 ((if x < x then num (ofFn sets) x else 0 : Nat) : Int)) := (cell_of_row wr _ x _ _ _ hN.p).trans (pcells_at _ _ _ hlt)
          have fx : wr.frozen? ⟨w.heap.size, x, none⟩ = false := frozen_of_row wr _ x _ _ hN.p
          by_cases hm : ofFn sets x ∈ firsts (ofFn sets) x
          · have hl1 := kl_in hm
            have hk : (firsts (ofFn sets) x).idxOf (ofFn sets x) < 256 := by have := List.idxOf_lt_length_of_mem hm; omega
            have hc8 := u8_in _ hk
            have hne := Lib.hid hm
            clear hm
            go_wp2_with (at_lookup; refine wpList_lookI rfl _ _ _ _ rfl 3 3 under_map under_int (.int .i64 0) (zero_int _) _ rfl rfl hN.m ?_)
            go_roundw
            case rel => exact N4.next_in hN hlt hne.out
            case measure => simp [intOf]; omega
          · obtain ⟨hl1, hput⟩ := kl_out hm
            have hne := Lib.hid hm
            have hput' := Lib.hid hput
            clear hm hput
            have c256 : wr.cell? ⟨w.heap.size, 256, none⟩ = some (.slice A1 (firsts (ofFn sets) x).length c1) := (cell_of_row wr _ 256 _ _ _ hN.p).trans (pcells_last _ _)
            go_wp2_with (first | (at_lookup; refine wpList_lookI rfl _ _ _ _ rfl 3 3 under_map under_int (.int .i64 0) (zero_int _) _ rfl rfl hN.m ?_) | (at_mapUpdate; refine wpList_putI rfl _ _ _ _ rfl 3 3 under_map under_int _ _ rfl rfl rfl hN.m ?_; intro w6 hm6 hg6 hz6))
            have hB6 : Below w.heap.size w w6 := hN.b.grown hg6 hN.b.size (fun k hk => by cases hk; omega)
            have hp6 := blk_grown hN.p hg6 (by simp; omega)
            have hown6 := hN.own.kept hg6 (.inr (fun e => (hN.m.own_ne hN.own) e.symm))
            have c6 : w6.cell? ⟨w.heap.size, 256, none⟩ = some (.slice A1 (firsts (ofFn sets) x).length c1) := (cell_of_row w6 _ 256 _ _ _ hp6).trans (pcells_last _ _)
            have hsets : sets[ofFn sets x]? = some (sets.getD (ofFn sets x) S4.zero) := by rw [List.getD_eq_getElem?_getD, List.getElem?_eq_getElem hfx]; rfl
            obtain ⟨ad, rfl, _, hbl, hcells⟩ := row_set (hrow.keep hB6) hsets
            have z6 : w.heap.size + 1 ≤ w6.heap.size := by have := hN.m.lt; omega
            have c6' : ∀ o, (w6.alloc o).cell? ⟨w.heap.size, 256, none⟩ = some (.slice A1 (firsts (ofFn sets) x).length c1) := fun o => (World.cell?_of_block (w := w6) (a := ⟨w.heap.size, 256, none⟩) (Below.heap_alloc _ _ _ (by simp; omega))).trans c6
            generalize sets.getD (ofFn sets x) S4.zero = s at *
            have e0 := hcells 0 _ rfl
            have e1 := hcells 1 _ rfl
            have e2 := hcells 2 _ rfl
            have e3 := hcells 3 _ rfl
            rw [add_one_addr _ _ (by decide)] at e1 e2 e3
            rw [show ((ad.add (ofFn sets x * 4)).add 0) = ad.add (ofFn sets x * 4) from rfl] at e0
            have HS := Lib.hid hsets
            clear hcells hsets cx fx c256 hl1
            go_region_law (refine step_push rfl _ _ 22 rfl (w.heap.size + 1) 35 i0 (.agg #[.int .u64 0, .int .u64 0, .int .u64 0, .int .u64 0]) 4 32 Tryd.underlying22 hi hz0 hz1 hz2 rfl (by decide) _ _ _ (by simp [Act.eval]) (show w6.drew.ownsRow _ _ _ _ _ _ from hown6) 1 1 #[.int .u64 s.w0.toNat, .int .u64 s.w1.toNat, .int .u64 s.w2.toNat, .int .u64 s.w3.toNat] (by simp [Act.eval]) rfl rfl (by omega) (by decide) z6 ?_; intro v7 w7 hown7 hg7 _; obtain ⟨A7, n7, hv7⟩ := own_slice hown7; subst hv7; have c7 : ∃ v, w7.cell? ⟨w.heap.size, 256, none⟩ = some v := ⟨_, (cell_of_row w7 _ 256 _ _ _ (blk_grown (w := w6.drew) hp6 hg7 (own_ne hown6 (by omega)))).trans (pcells_last _ _)⟩; have f7 : w7.frozen? ⟨w.heap.size, 256, none⟩ = false := frozen_of_row w7 _ 256 _ _ (blk_grown (w := w6.drew) hp6 hg7 (own_ne hown6 (by omega))); obtain ⟨v7', c7⟩ := c7; have hp7 := blk_grown (w := w6.drew) hp6 hg7 (own_ne hown6 (by omega)); have c8 : ∀ v, (w7.setCell ⟨w.heap.size, 256, none⟩ v).cell? ⟨w.heap.size, x, none⟩ = some (.int .u8 ((if x < x then num (ofFn sets) x else 0 : Nat) : Int)) := fun v => (cell_of_row _ _ x _ _ _ (heap_setCell_same w7 _ 256 _ _ v hp7)).trans (by rw [pcells_setv]; exact pcells_at _ _ _ hlt); have f8 : ∀ v, (w7.setCell ⟨w.heap.size, 256, none⟩ v).frozen? ⟨w.heap.size, x, none⟩ = false := fun v => frozen_of_row _ _ x _ _ (heap_setCell_same w7 _ 256 _ _ v hp7))
            all_goals
              go_wp2
              go_roundw
              case rel => exact N4.next_out hN hlt hne.out hput'.out HS.out hm6 hp6 hB6 hown6 hg7 hown7
              case measure => simp [intOf]; omega
        · obtain rfl : x = 256 := by omega
          go_wp2
          go_returns
          refine ⟨w.heap.size, rfl, ⟨Nat.le_refl _, A1, c1, ?_, ?_⟩, hN.b⟩
          · have := hN.p
            rw [this]
            rw [pcells_congr (f := fun z => if z < 256 then num (ofFn sets) z else 0) (g := num (ofFn sets)) (fun z hz => if_pos hz)]
            rw [List.length_map]
          · rw [List.length_map]; exact own_base hN.own (by omega)
end Go.Proofs.YtccbfcnnbdgcgaaDoor
