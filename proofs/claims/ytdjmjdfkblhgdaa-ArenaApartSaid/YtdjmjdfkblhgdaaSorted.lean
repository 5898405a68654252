/- The regions of an arena in a row, sorted by where they lie. -/
import Derived.Test.YtdjmjdfkblhgdaaIter
import Derived.Test.YtdjmjdfkblhgdaaSortLay
import Derived.Handy
namespace Go.Proofs.Ytdjmjdfkblhgdaa
open Go.RowKit Go.Maps Go.ChangeMaps Go.Shelf Go.Sort

def encB (x : BN) : List Value := [.int .i64 (x.1 : Int), .int .i64 (x.2 : Int)]
instance : Inhabited BN := ⟨(0, 0)⟩
theorem bnCells_get : ∀ (xs : List BN) (t : Nat), t < xs.length * 2 → (bnCells xs)[t]? = some ((encB (xs[t / 2]!))[t % 2]!) := by
  intro xs
  induction xs with
  | nil => intro t h; simp at h
  | cons x xs ih =>
    intro t h
    show ([_, _] ++ bnCells xs)[t]? = _
    match t with
    | 0 => rfl
    | 1 => rfl
    | t + 2 =>
      rw [List.getElem?_append_right (by simp)]
      simp only [List.length_cons, List.length_nil, Nat.zero_add, Nat.reduceAdd, Nat.add_sub_cancel]
      rw [ih t (by simp at h; omega), show (t + 2) / 2 = t / 2 + 1 by omega, show (t + 2) % 2 = t % 2 by omega]
      rfl
theorem flat_bn (d : Array BN) : flatK encB 2 d = (bnCells d.toList).toArray := by
  apply Array.ext_getElem?
  intro t
  by_cases ht : t < d.size * 2
  · rw [show (bnCells d.toList).toArray[t]? = (bnCells d.toList)[t]? from by simp, bnCells_get _ t (by rw [Array.length_toList]; exact ht)]
    rw [Array.getElem?_eq_getElem (by simpa using ht)]
    have := get_flatK encB 2 d t ht
    rw [getElem!_pos _ t (by simpa using ht)] at this
    rw [this, show d.toList[t / 2]! = d[t / 2]! from Array.getElem!_toList ..]
  · rw [Array.getElem?_eq_none (by simp; omega), Array.getElem?_eq_none (by rw [List.size_toArray, bnCells_length, Array.length_toList]; omega)]
theorem holds_bn {w : World} {g : Nat} {cur : Array Value} {e : TypeId} {xs : List BN} (hb : w.heap[g]? = some (.cells cur e (0, 0))) (ht : cur.toList.take (xs.length * 2) = bnCells xs) : HoldsK encB 2 w g 0 xs.toArray := by
  unfold HoldsK
  rw [flat_bn]
  intro j hj
  have hj' : j < (bnCells xs).length := by simpa using hj
  refine ⟨?_, by simp [World.frozen?, hb]⟩
  have h1 : (cur.toList.take (xs.length * 2))[j]? = (bnCells xs)[j]? := by rw [ht]
  rw [List.getElem?_take_of_lt (by rw [bnCells_length] at hj'; exact hj')] at h1
  simp only [World.cell?, hb, Nat.zero_add]
  simp only [Option.isSome_none, Bool.false_eq_true, if_false]
  rw [← Array.getElem?_toList, h1]
  simp [hj']
theorem heap_sortedB {w : World} {g n : Nat} {os : Array Obj} {cur : Array Value} {e : TypeId} {fr : Nat × Nat} (d : Array Value) (hb : w.heap[g]? = some (.cells cur e fr)) :
    (grow (putRow id (Sort.ahead w n) g 0 d) os).heap[g]? = some (.cells (putCells id 0 d cur) e fr) := by
  have hg : g < w.heap.size := (Array.getElem?_eq_some_iff.1 hb).1
  rw [heap_grow_old _ _ (by simpa using hg)]
  simp [putRow, mapBlock, Sort.ahead, Array.getElem?_modify, hb, onCells]
theorem grownBy_sortedB {w : World} {g n : Nat} {os : Array Obj} (d : Array Value) : w.grownBy (grow (putRow id (Sort.ahead w n) g 0 d) os) (some g) := by
  refine ⟨rfl, rfl, rfl, by simp, fun k hk hne => ?_⟩
  rw [heap_grow_old _ _ (by simpa using hk)]
  have : g ≠ k := fun e => hne (by rw [e])
  simp [putRow, mapBlock, Sort.ahead, Array.getElem?_modify, this]
theorem take_putB (cur : Array Value) (ts : List Value) (h : ts.length ≤ cur.size) : (putCells id 0 ts.toArray cur).toList.take ts.length = ts := by
  apply List.ext_getElem?
  intro j
  by_cases hj : j < ts.length
  · rw [List.getElem?_take_of_lt hj, Array.getElem?_toList]
    simp [putCells, hj, show j < cur.size by omega]
  · rw [List.getElem?_take_eq_none (by omega), List.getElem?_eq_none (by omega)]
def cfB (x y : BN) : Int := if x.1 < y.1 then -1 else if y.1 < x.1 then 1 else 0
theorem nan_any (x : Int) (w : World) : Calls Try.prog 86 #[.int .i64 x] w fun e w' => e = .returned (.bool false) ∧ w = w' := by
  go_enter Try.func86, Try.ntmps86
  go_wp2
  go_returns
  exact ⟨rfl, rfl⟩
theorem compare_any (a b : Nat) (w : World) : Calls Try.prog 75 #[.int .i64 (a : Int), .int .i64 (b : Int)] w fun e w' => e = .returned (.int .i64 (cfB (a, 0) (b, 0))) ∧ w = w' := by
  by_cases h1 : a < b
  · rw [show cfB (a, 0) (b, 0) = -1 from if_pos h1]
    have d1 : decide ((a : Int) < (b : Int)) = true := by simp; omega
    go_enter Try.func75, Try.ntmps75
    go_wp2_with (go_at_call 86; refine (nan_any _ _).mono ?_; rintro e w' ⟨rfl, rfl⟩)
    go_returns
    exact ⟨rfl, rfl⟩
  · by_cases h2 : b < a
    · rw [show cfB (a, 0) (b, 0) = 1 from (if_neg h1).trans (if_pos h2)]
      have d1 : decide ((a : Int) < (b : Int)) = false := by simp; omega
      have d2 : decide ((b : Int) < (a : Int)) = true := by simp; omega
      go_enter Try.func75, Try.ntmps75
      go_wp2_with (go_at_call 86; refine (nan_any _ _).mono ?_; rintro e w' ⟨rfl, rfl⟩)
      go_returns
      exact ⟨rfl, rfl⟩
    · rw [show cfB (a, 0) (b, 0) = 0 from (if_neg h1).trans (if_neg h2)]
      have d1 : decide ((a : Int) < (b : Int)) = false := by simp; omega
      have d2 : decide ((b : Int) < (a : Int)) = false := by simp; omega
      go_enter Try.func75, Try.ntmps75
      go_wp2_with (go_at_call 86; refine (nan_any _ _).mono ?_; rintro e w' ⟨rfl, rfl⟩)
      go_returns
      exact ⟨rfl, rfl⟩
theorem rows1_any (x y : BN) (w : World) : Calls Try.prog 74 #[.agg (encB x).toArray, .agg (encB y).toArray] w fun e w' => e = .returned (.int .i64 (cfB x y)) ∧ w' = (w.alloc (.cells (encB x).toArray 82)).alloc (.cells (encB y).toArray 82) := by
  unfold encB
  go_enter Try.func74, Try.ntmps74
  go_wp2_with (go_at_call 75; refine (compare_any _ _ _).mono ?_; rintro e w' ⟨rfl, rfl⟩)
  go_returns
  exact ⟨rfl, rfl⟩
theorem swoB : SWO (ltOf cfB) := by
  have e : ∀ x y : BN, ltOf cfB x y = decide (x.1 < y.1) := fun x y => by
    unfold ltOf cfB
    by_cases h1 : x.1 < y.1
    · simp [h1]
    · by_cases h2 : y.1 < x.1 <;> simp [h1, h2]
  exact ⟨fun x => by rw [e]; simp, fun x y z h1 h2 => by rw [e] at *; simp at *; omega, fun x y z h1 h2 => by rw [e] at *; simp at *; omega⟩
theorem ltB (x y : BN) : ltOf cfB x y = decide (x.1 < y.1) := by
  unfold ltOf cfB
  by_cases h1 : x.1 < y.1
  · simp [h1]
  · by_cases h2 : y.1 < x.1 <;> simp [h1, h2]
theorem sort_any (xs : List BN) (hl : xs.length ≤ 1099511627776) (base : Nat) (v : Value) (w : World) (hown : w.ownsRow base 82 2 v xs.length (bnCells xs)) :
    Calls Try.prog 84 #[v, .func (.func 74) #[] #[]] w fun e w' => e = .returned (.tuple #[]) ∧ ∃ ys : List BN, ys.Perm xs ∧ (ys.Pairwise fun a b => byBase a b = true) ∧ w'.ownsRow base 82 2 v ys.length (bnCells ys) ∧ w.grownBy w' v.ownBlock := by
  rcases hown.2 with ⟨rfl, hz⟩ | ⟨g, cap, cur, rfl, hbase, hb, h1, h2, h3, h4⟩
  · have hx : xs = [] := List.eq_nil_of_length_eq_zero hz
    subst hx
    exact (AnyF.slices_SortFunc_none sort_lays none 0 _ w).mono fun e w' ⟨he, hw⟩ => ⟨he, [], List.Perm.refl _, List.Pairwise.nil, by rw [hw]; exact hown, by rw [hw]; exact World.grownBy.refl w _⟩
  · have hH := holds_bn (xs := xs) hb h4
    have hg : g < w.heap.size := (Array.getElem?_eq_some_iff.1 hb).1
    have hsz : xs.toArray.size = xs.length := by simp
    have hS := AnyQ.slices_SortFunc sort_lays 2 (fun w => by exact Try.isAgg82 w) (fun w => by exact Try.sizeOf82 w) encB (fun _ => rfl) (fun x u hu => by
        simp only [encB, List.mem_cons, List.mem_nil_iff, or_false] at hu; rcases hu with rfl | rfl <;> rfl) cfB swoB 74 #[] g 0 cap xs.toArray w
      (enters_of Try.func74 (by kernel_rfl) rfl)
      (fun m os dk hdk x y => (rows1_any x y _).mono fun e w' ⟨he, hw⟩ => ⟨he, 0, #[.cells (encB x).toArray 82 (0, 0), .cells (encB y).toArray 82 (0, 0)], by
        rw [hw, alloc_eq_grow, alloc_eq_grow, grow_grow]; rfl⟩) hH hg (by rw [hsz]; omega)
    rw [hsz] at hS
    refine hS.mono fun e w' ⟨he, d', n, os, hp, hs, hw⟩ => ⟨he, d'.toList, ?_, ?_, ?_, ?_⟩
    · obtain ⟨p1, _, p3⟩ := hp
      rw [hsz] at p1
      rw [show d'.extract 0 xs.length = d' by rw [← p1]; simp, show xs.toArray.extract 0 xs.length = xs.toArray by rw [← hsz]; simp] at p3
      exact p3
    · obtain ⟨p1, _, _⟩ := hp
      rw [hsz] at p1
      rw [List.pairwise_iff_getElem]
      intro i j hi hj hij
      have hi' : i < d'.size := by simpa using hi
      have hj' : j < d'.size := by simpa using hj
      have := hs i j (Nat.zero_le _) hij (by omega)
      rw [ltB, getElem!_pos _ j hj', getElem!_pos _ i hi'] at this
      simp only [decide_eq_false_iff_not] at this
      simp only [byBase, decide_eq_true_eq, Array.getElem_toList]
      omega
    · obtain ⟨p1, _, _⟩ := hp
      rw [hsz] at p1
      have hd : d'.toList.length = xs.length := by rw [Array.length_toList]; exact p1
      have hw' : w' = grow (putRow id (Sort.ahead w n) g 0 (bnCells d'.toList).toArray) os := by rw [hw, ← flat_bn]; rfl
      rw [hw', hd]
      refine ⟨by rw [bnCells_length, hd], .inr ⟨g, cap, _, rfl, hbase, heap_sortedB _ hb, h1, h2, by simp [putCells, h3], ?_⟩⟩
      have := take_putB cur (bnCells d'.toList) (by rw [bnCells_length, hd, h3]; omega)
      rw [bnCells_length, hd] at this
      exact this
    · have hw' : w' = grow (putRow id (Sort.ahead w n) g 0 (flatK encB 2 d')) os := hw
      rw [hw']
      exact grownBy_sortedB _
set_option maxRecDepth 100000 in
theorem values_any (b : Nat) (w : World) : Calls Try.prog 73 #[.map (some b)] w fun e w' => e = .returned (.func (.func 85) #[] #[.pointer (some ⟨w.heap.size, 0, none⟩)]) ∧ w.alloc (.cells #[.map (some b)] 77) = w' := by
  go_enter Try.func73, Try.ntmps73
  go_wp2
  go_returns
  exact ⟨rfl, rfl⟩
theorem collect_any (rs : List Reg) (hl : rs.length ≤ 1099511627776) (Bm b : Nat) (w : World) (hm : w.heap[Bm]? = some (.cells #[.map (some b)] 77 (0, 0))) (hmap : MapZ (Value.int .i64) w b (regMap rs)) :
    Calls Try.prog 83 #[.func (.func 85) #[] #[.pointer (some ⟨Bm, 0, none⟩)]] w fun e w' => ∃ (v : Value) (xs : List BN), e = .returned v ∧ xs.Perm (bns rs) ∧ w'.ownsRow w.heap.size 82 2 v xs.length (bnCells xs) ∧ Below w.heap.size w w' := by
  have hA := fun wx (hx : w = wx) => callsIn_wide.1 (appendSeq_in Fence.wide 4 trivial rfl (by omega) 85 #[.pointer (some ⟨Bm, 0, none⟩)] trivial (enters_of Try.func85 (by kernel_rfl) rfl) (fun xs => xs.Perm (bns rs)) rs.length hl wx
    (by subst hx; exact values_stops Fence.wide 3 trivial rfl (by omega) Bm b rs w (blk_lt hm) (cell_of_row w _ 0 _ _ _ hm) hmap))
  have HA := Lib.hid (hA w rfl)
  clear hA
  go_enter Try.func83, Try.ntmps83
  go_wp2_with (go_at_call 89; refine HA.out.mono ?_; rintro e w1 ⟨v, xs, rfl, hp, hown, hb⟩)
  go_returns
  exact ⟨v, xs, rfl, hp, hown, hb⟩
def RowsPost (rs : List Reg) (w : World) (e : Ending) (w' : World) : Prop :=
  ∃ (A : Option Addr) (c : Nat) (xs : List BN), e = .returned (.slice A xs.length c) ∧ xs.Perm (bns rs) ∧ (xs.Pairwise fun a b => byBase a b = true) ∧ w'.ownsRow w.heap.size 82 2 (.slice A xs.length c) xs.length (bnCells xs) ∧ Below w.heap.size w w'
set_option maxRecDepth 100000 in
theorem sorted_any (rs : List Reg) (hl : rs.length ≤ 1099511627776) (Bm b : Nat) (w : World) (hm : w.heap[Bm]? = some (.cells #[.map (some b)] 77 (0, 0))) (hmap : MapZ (Value.int .i64) w b (regMap rs)) :
    Calls Try.prog 72 #[.func (.func 85) #[] #[.pointer (some ⟨Bm, 0, none⟩)], .func (.func 74) #[] #[]] w (RowsPost rs w) := by
  have HC := Lib.hid (collect_any rs hl Bm b w hm hmap)
  clear hm hmap
  go_enter Try.func72, Try.ntmps72
  go_wp2_with fail
  refine HC.out.mono ?_
  rintro e w1 ⟨v, xs, rfl, hp, hown, hb⟩
  have hlx : xs.length ≤ 1099511627776 := by have := hp.length_eq; simp [bns] at this; omega
  have HS := Lib.hid (sort_any xs hlx _ v w1 hown)
  have HP := Lib.hid hp
  have HO := Lib.hid hown
  clear hp hown hlx
  go_wp2_with fail
  refine HS.out.mono ?_
  rintro e w2 ⟨rfl, ys, hy, hys, hown2, hg⟩
  obtain ⟨A, c, rfl⟩ := own_slice hown2
  go_wp2
  go_returns
  exact ⟨A, c, ys, rfl, hy.trans HP.out, hys, hown2, hb.grown hg hb.size (own_row HO.out)⟩
set_option maxRecDepth 100000 in
theorem rows_any (rs : List Reg) (hl : rs.length ≤ 1099511627776) (a b : Nat) (w : World) (hc : w.cell? ⟨a, 2, none⟩ = some (.map (some b))) (hmap : MapZ (Value.int .i64) w b (regMap rs)) :
    Calls Try.prog 52 #[.pointer (some ⟨a, 0, none⟩)] w (RowsPost rs w) := by
  have HS := Lib.hid (sorted_any rs hl w.heap.size b _ (heap_alloc_new w (.cells #[.map (some b)] 77)) (hmap.below ((Below.refl _ _).alloc (Nat.le_refl _) _)))
  clear hmap
  go_enter Try.func52, Try.ntmps52
  go_wp2_with fail
  refine (values_any b _).mono ?_
  rintro e w1 ⟨rfl, rfl⟩
  go_wp2_with fail
  refine HS.out.mono ?_
  rintro e w2 ⟨A, c, xs, rfl, hp, hs, hown, hb⟩
  go_wp2
  go_returns
  exact ⟨A, c, xs, rfl, hp, hs, own_base hown (by simp), ((Below.refl _ _).alloc (Nat.le_refl _) _).trans (hb.mono (by simp))⟩
end Go.Proofs.Ytdjmjdfkblhgdaa
