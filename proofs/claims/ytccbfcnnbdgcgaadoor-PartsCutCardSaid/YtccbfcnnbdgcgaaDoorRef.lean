/- What the document's reference for classes computes. -/
import Derived.Test.YtccbfcnnbdgcgaaDoorAlike
namespace Go.Proofs.YtccbfcnnbdgcgaaDoor
open Go.RowKit
attribute [local go_sem] S4.val

/-- The cells of an array of 256 whole numbers. -/
def icells (f : Nat → Int) : Array Value := ((List.range 256).map fun x => Value.int .i64 (f x)).toArray
theorem icells_size (f : Nat → Int) : (icells f).size = 256 := by simp [icells]
theorem icells_at (f : Nat → Int) (x : Nat) (h : x < 256) : (icells f)[x]? = some (.int .i64 (f x)) := by
  unfold icells
  rw [List.getElem?_toArray, List.getElem?_map, range_at _ _ h]; rfl
theorem icells_set (f : Nat → Int) (x : Nat) (y : Int) (h : x < 256) : (icells f).setIfInBounds x (.int .i64 y) = icells fun z => if z = x then y else f z := by
  apply Array.ext_getElem?
  intro j
  rw [Array.getElem?_setIfInBounds]
  by_cases hj : j < 256
  · rw [icells_at _ _ hj]
    by_cases e : x = j
    · subst e; rw [if_pos rfl, if_pos (by rw [icells_size]; exact h), icells_at _ _ hj, if_pos rfl]
    · rw [if_neg e, icells_at _ _ hj, if_neg (fun h => e h.symm)]
  · rw [Array.getElem?_eq_none (by rw [icells_size]; omega), if_neg (by omega), Array.getElem?_eq_none (by rw [icells_size]; omega)]
theorem icells_congr {f g : Nat → Int} (h : ∀ x, x < 256 → f x = g x) : icells f = icells g := by
  unfold icells
  congr 1
  apply List.map_congr_left
  intro x hx
  rw [h x (List.mem_range.1 hx)]
theorem icells_one (f : Nat → Int) : ∀ v ∈ (icells f).toList, v.oneCell' = true := by
  intro v hv
  unfold icells at hv
  simp at hv
  obtain ⟨a, _, rfl⟩ := hv
  rfl
theorem zero_iints (w : World) : (zeroValue 26).run Tryd.prog w = .ok (.agg (icells fun _ => 0)) w := by kernel_rfl
theorem alloc_iints (w : World) : (Instr.alloc 26 true (.tuple #[])).run Tryd.prog w = .ok (.pointer (some ⟨w.heap.size, 0, none⟩)) (w.alloc (.cells (icells fun _ => 0) 26)) := by kernel_rfl
theorem refGo_le (l : List S4) (n : Nat) : (refGo l n).2 ≤ n ∧ (refGo l n).1.length = n := by
  induction n with
  | zero => simp [refGo]
  | succ n ih =>
    unfold refGo
    cases (List.range n).find? fun a => alike l a n <;> simp <;> omega
/-- The reference's numbers of the bytes below b; noughts behind them. -/
def refR (l : List S4) (b x : Nat) : Int := if x < b then ((refGo l b).1.getD x 0 : Int) else 0
structure Rf (l : List S4) (w : World) (f : Nat → Int) (wr : World) : Prop where
  res : wr.heap[w.heap.size]? = some (.cells (icells fun _ => 0) 26 (0, 0))
  out : wr.heap[w.heap.size + 1]? = some (.cells (icells f) 26 (0, 0))
  b : Below w.heap.size w wr
theorem Rf.below {l : List S4} {w : World} {f : Nat → Int} {wr w1 : World} (h : Rf l w f wr) (hb : Below wr.heap.size wr w1) : Rf l w f w1 := ⟨blk_below h.res hb, blk_below h.out hb, below_seq h.b hb h.b.size⟩
theorem Rf.drew {l : List S4} {w : World} {f : Nat → Int} {wr : World} (h : Rf l w f wr) : Rf l w f wr.drew := ⟨h.res, h.out, h.b.drew⟩
theorem Rf.store {l : List S4} {w : World} {f : Nat → Int} {wr : World} (h : Rf l w f wr) (x : Nat) (hx : x < 256) (y : Int) : Rf l w (fun z => if z = x then y else f z) (wr.setCell ⟨w.heap.size + 1, x, none⟩ (.int .i64 y)) := by
  refine ⟨(Below.heap_setCell _ _ _ _ (by simp)).trans h.res, ?_, h.b.setCell (by simp) _⟩
  rw [heap_setCell_same wr _ x _ _ _ h.out, icells_set _ _ _ hx]
theorem Rf.congr {l : List S4} {w : World} {f g : Nat → Int} {wr : World} (h : Rf l w f wr) (hfg : ∀ x, x < 256 → f x = g x) : Rf l w g wr := ⟨h.res, by rw [← icells_congr hfg]; exact h.out, h.b⟩
def Rf1 (l : List S4) (w : World) (n b : Value) (wr : World) : Prop := ∃ k : Nat, k ≤ 256 ∧ b = .int .i64 (k : Int) ∧ n = .int .i64 ((refGo l k).2 : Int) ∧ Rf l w (refR l k) wr
def Rf2 (l : List S4) (w : World) (k : Nat) (a : Value) (wr : World) : Prop := ∃ (j : Nat) (v : Int), j ≤ k ∧ a = .int .i64 (j : Int) ∧ Rf l w (fun z => if z = k then v else refR l k z) wr ∧
  ((v = -1 ∧ ∀ i, i < j → alike l i k = false) ∨ (0 ≤ v ∧ ∃ i, (List.range k).find? (fun i => alike l i k) = some i ∧ v = refR l k i))
theorem refR_none (l : List S4) (k : Nat) (h : (List.range k).find? (fun i => alike l i k) = none) (x : Nat) : refR l (k + 1) x = if x = k then ((refGo l k).2 : Int) else refR l k x := by
  have hn : (refGo l (k + 1)).1 = (refGo l k).1 ++ [(refGo l k).2] := by rw [refGo, h]
  have hlen := (refGo_le l k).2
  unfold refR
  rw [hn]
  by_cases e : x = k
  · subst e; rw [if_pos (by omega), if_pos rfl, List.getD_eq_getElem?_getD, List.getElem?_append_right (by omega), hlen]; simp
  · rw [if_neg e]
    by_cases hx : x < k
    · rw [if_pos (by omega), if_pos hx, List.getD_eq_getElem?_getD, List.getElem?_append_left (by omega), ← List.getD_eq_getElem?_getD]
    · rw [if_neg (by omega), if_neg hx]
theorem refR_some (l : List S4) (k i : Nat) (h : (List.range k).find? (fun i => alike l i k) = some i) (x : Nat) : refR l (k + 1) x = if x = k then refR l k i else refR l k x := by
  have hn : (refGo l (k + 1)).1 = (refGo l k).1 ++ [(refGo l k).1.getD i 0] := by rw [refGo, h]
  have hi : i < k := List.mem_range.1 (List.mem_of_find?_eq_some h)
  have hlen := (refGo_le l k).2
  unfold refR
  rw [hn]
  by_cases e : x = k
  · subst e; rw [if_pos (by omega), if_pos rfl, if_pos hi, List.getD_eq_getElem?_getD, List.getElem?_append_right (by omega), hlen]; simp
  · rw [if_neg e]
    by_cases hx : x < k
    · rw [if_pos (by omega), if_pos hx, List.getD_eq_getElem?_getD, List.getElem?_append_left (by omega), ← List.getD_eq_getElem?_getD]
    · rw [if_neg (by omega), if_neg hx]
theorem refGo_none (l : List S4) (k : Nat) (h : (List.range k).find? (fun i => alike l i k) = none) : (refGo l (k + 1)).2 = (refGo l k).2 + 1 := by rw [refGo, h]
theorem refGo_some (l : List S4) (k i : Nat) (h : (List.range k).find? (fun i => alike l i k) = some i) : (refGo l (k + 1)).2 = (refGo l k).2 := by rw [refGo, h]
theorem find_first (p : Nat → Bool) (k j : Nat) (hj : j < k) (hp : p j = true) (hno : ∀ i, i < j → p i = false) : (List.range k).find? p = some j := by
  rw [List.find?_range_eq_some]
  refine ⟨hp, by simpa using hj, fun i hi => by simp [hno i hi]⟩
def RefPost (l : List S4) (w : World) (e : Ending) (w' : World) : Prop := e = .returned (.tuple #[.agg (icells fun x => (remapOf l x : Int)), .int .i64 (setsOf l).length]) ∧ Below w.heap.size w w'
set_option maxRecDepth 100000 in
set_option maxHeartbeats 1000000 in
theorem refRemap_any (l : List S4) (hl : l.length ≤ 1099511627776) (A : Option Addr) (c : Nat) (w : World) (hrow : RowAt w 0 w.heap.size A (setsCells l)) :
    Calls Tryd.prog 10 #[.slice A l.length c] w (RefPost l w) := by
  have z1 := zero_iints
  have z2 := alloc_iints
  go_enter Tryd.func10, Tryd.ntmps10
  go_wp2
  go_loopw [5, 6] (fun n b wr => Rf1 l w n b wr) (fun _ b _ => 256 - (intOf b).toNat)
  case atStart => exact ⟨0, by omega, rfl, rfl, blk_alloc (heap_alloc_new w _) _, by rw [show refR l 0 = fun _ => 0 from rfl]; simpa using heap_alloc_new (w.alloc (.cells (icells fun _ => 0) 26)) (.cells (icells fun _ => 0) 26), ((Below.refl _ _).alloc (Nat.le_refl _) _).alloc (by simp) _⟩
  case round =>
    obtain ⟨k, hk, rfl, rfl, hR⟩ := hrel
    have hle := (refGo_le l k).1
    by_cases hlt : k < 256
    · have c1 : wr.cell? ⟨w.heap.size + 1, k, none⟩ = some (.int .i64 (refR l k k)) := (cell_of_row wr _ k _ _ _ hR.out).trans (icells_at _ _ hlt)
      have f1 : wr.frozen? ⟨w.heap.size + 1, k, none⟩ = false := frozen_of_row wr _ k _ _ hR.out
      have hR2 := hR.store k hlt (-1)
      have d0 : decide ((k : Int) < 256) = true := by simp; omega
      go_wp2
      clear hR c1 f1 d0
      obtain ⟨w2, rfl⟩ : ∃ w2 : World, w2 = wr := ⟨_, rfl⟩
      go_loopw [7] (fun a wi => Rf2 l w k a wi) (fun a _ => k - (intOf a).toNat)
      case atStart => exact ⟨0, -1, Nat.zero_le _, rfl, hR2, .inl ⟨rfl, fun i hi => absurd hi (by omega)⟩⟩
      case round =>
        obtain ⟨j, v, hj, rfl, hR3, hv⟩ := hrel
        clear hR2
        have c2 : ∀ i, i < k → wr.cell? ⟨w.heap.size + 1, i, none⟩ = some (.int .i64 (refR l k i)) := fun i hi => (cell_of_row wr _ i _ _ _ hR3.out).trans ((icells_at _ _ (by omega)).trans (by rw [if_neg (by omega)]))
        have c3 : wr.cell? ⟨w.heap.size + 1, k, none⟩ = some (.int .i64 v) := (cell_of_row wr _ k _ _ _ hR3.out).trans ((icells_at _ _ (by omega)).trans (by rw [if_pos rfl]))
        have f3 : wr.frozen? ⟨w.heap.size + 1, k, none⟩ = false := frozen_of_row wr _ k _ _ hR3.out
        have hC2 := Lib.hid c2
        clear c2
        rcases hv with ⟨rfl, hno⟩ | ⟨hv0, i0, hfind, hvi⟩
        · by_cases hjk : j < k
          · have d1 : decide ((j : Int) < (k : Int)) = true := by simp; omega
            have c4 := hC2.out j hjk
            have hno' := Lib.hid hno
            clear hno
            have hz3 : w.heap.size + 1 < wr.heap.size := blk_lt hR3.out
            cases hal : alike l j k with
            | true =>
              have HAL := Lib.hid hal
              clear hal
              go_wp2_with (go_at_call 25; refine (alike_is l hl A c j k (by omega) hlt _ HAL.out _ ((hrow.keep hR3.b).mono (Nat.le_refl _) hR3.b.size)).mono ?_; rintro e w1 ⟨rfl, hb1⟩; have c5 := (hb1.cell (p := ⟨w.heap.size + 1, j, none⟩) hz3).trans c4; have c6 := (hb1.cell (p := ⟨w.heap.size + 1, k, none⟩) hz3).trans c3; have f6 := (hb1.frozen (p := ⟨w.heap.size + 1, k, none⟩) hz3).trans f3)
              have hR4 : Rf l w (fun z => if z = k then refR l k j else refR l k z) (w1.setCell ⟨w.heap.size + 1, k, none⟩ (.int .i64 (refR l k j))) := ((hR3.below hb1).store k hlt _).congr fun x _ => by by_cases e : x = k <;> simp [e]
              have hf : (List.range k).find? (fun i => alike l i k) = some j := find_first _ k j hjk HAL.out hno'.out
              have hpos : 0 ≤ refR l k j := by unfold refR; split <;> omega
              clear c3 f3 c4 c5 c6 f6
              go_roundw
              case rel => exact ⟨j + 1, refR l k j, hjk, by go_num, hR4, .inr ⟨hpos, j, hf, rfl⟩⟩
              case measure => simp [intOf]; omega
            | false =>
              have HAL := Lib.hid hal
              clear hal
              go_wp2_with (go_at_call 25; refine (alike_is l hl A c j k (by omega) hlt _ HAL.out _ ((hrow.keep hR3.b).mono (Nat.le_refl _) hR3.b.size)).mono ?_; rintro e w1 ⟨rfl, hb1⟩)
              go_roundw
              case rel =>
                have X : Rf2 l w k (.int .i64 ((j : Int) + 1)) w1 := by
                  refine ⟨j + 1, -1, hjk, by go_num, hR3.below hb1, .inl ⟨rfl, fun i hi => ?_⟩⟩
                  by_cases e : i = j
                  · subst e; exact HAL.out
                  · exact hno'.out i (by omega)
                first | exact X | ((repeat apply Exists.intro); exact ⟨X, rfl⟩)
              case measure => simp [intOf]; omega
          · obtain rfl : j = k := by omega
            have d1 : decide ((j : Int) < (j : Int)) = false := by simp
            have hf : (List.range j).find? (fun i => alike l i j) = none := by
              rw [List.find?_eq_none]; intro i hi; simp [hno i (List.mem_range.1 hi)]
            clear hno
            go_wp2
            have hR5 : Rf l w (refR l (j + 1)) (wr.setCell ⟨w.heap.size + 1, j, none⟩ (.int .i64 ((refGo l j).2 : Int))) := (hR3.store j hlt _).congr fun x _ => by rw [refR_none l j hf]; by_cases e : x = j <;> simp [e]
            clear c3 f3
            go_roundw
            case rel => exact ⟨j + 1, by omega, by go_num, by rw [refGo_none l j hf]; go_num, hR5⟩
            case measure => simp [intOf]; omega
        · have hik : i0 < k := List.mem_range.1 (List.mem_of_find?_eq_some hfind)
          have d2 : decide (v < 0) = false := by simp; omega
          have hR5 : Rf l w (refR l (k + 1)) wr := hR3.congr fun x _ => by rw [refR_some l k i0 hfind]; by_cases e : x = k <;> simp [e, hvi]
          by_cases hjk : j < k
          · have d1 : decide ((j : Int) < (k : Int)) = true := by simp; omega
            go_wp2
            go_roundw
            case rel => exact ⟨k + 1, by omega, by go_num, by rw [refGo_some l k i0 hfind], hR5⟩
            case measure => simp [intOf]; omega
          · have d1 : decide ((j : Int) < (k : Int)) = false := by simp; omega
            go_wp2
            go_roundw
            case rel => exact ⟨k + 1, by omega, by go_num, by rw [refGo_some l k i0 hfind], hR5⟩
            case measure => simp [intOf]; omega
    · obtain rfl : k = 256 := by omega
      obtain ⟨hlen, hcount, hall⟩ := refGo_remap l
      have d1 : decide (((256 : Nat) : Int) < 256) = false := by simp
      have hfin : icells (refR l 256) = icells fun x => (remapOf l x : Int) := icells_congr fun x hx => by unfold refR; rw [if_pos hx, hall x hx]
      obtain ⟨hres, hout, hB⟩ := hR
      rw [hfin] at hout
      have hone := icells_one fun x => (remapOf l x : Int)
      have hsz := icells_size fun x => (remapOf l x : Int)
      have hsz0 := icells_size fun _ => 0
      have HV : Hid (Value.agg (icells fun x => (remapOf l x : Int)) = Value.agg (icells fun x => (remapOf l x : Int))) := rfl
      clear hfin hall z1 z2
      unfold RefPost
      rw [hcount]
      clear hcount
      generalize hrs : (icells fun x => (remapOf l x : Int)) = rs at *
      have HRS := Lib.hid hrs
      clear hrs
      generalize (icells fun _ => 0) = rs0 at *
      have hc : Hid (∀ j v, rs.toList[j]? = some v → wr.cell? ((⟨w.heap.size + 1, 0, none⟩ : Addr).add j) = some v) := by
        intro j v hv
        have e : (⟨w.heap.size + 1, 0, none⟩ : Addr).add j = ⟨w.heap.size + 1, j, none⟩ := by unfold Addr.add; split <;> simp_all
        rw [e]
        exact (cell_of_row wr _ j _ _ _ hout).trans (by simpa using hv)
      have hsize : Hid ((Tryd.prog.info? 26).map (·.size) = some rs.toList.length) := by rw [Array.length_toList, hsz]; exact size_ints
      have hsize2 : Hid ((Tryd.prog.info? 26).map (·.size) = some rs.size) := by rw [hsz]; exact size_ints
      have hold : Hid (rs0.size = rs.size) := hsz0.trans hsz.symm
      have hall1 : Hid (rs.all (·.oneCell') = true) := by rw [Array.all_eq_true']; intro v hv; exact hone v (by simpa using hv)
      clear hone hsz hsz0
      go_wp2_with (first | ((with_reducible refine at_slot 43 _ _ _ _ _ ?_); refine wpList_load_at rfl _ _ rfl _ rfl rs.toList hc.out _ under_ints rfl hsize.out ?_; rw [Array.toArray_toList]) | ((with_reducible refine at_store 26 _ _ _ _ _ _ ?_); refine wpList_store_row rfl _ _ _ rfl w.heap.size rs rfl rfl _ _ hres hsize2.out hold.out hall1.out ?_))
      have hn : (wr.setRow w.heap.size rs).heap[w.heap.size]? = some (.cells rs 26 (0, 0)) := setRow_heap _ _ _ _ _ _ hres
      refine bodyPost_ret (v := .tuple #[.agg rs, .int .i64 (setsOf l).length]) (by rw [results_cell_tmp rfl]; simp [asAddr, run_loadVar_row (P := Tryd.prog) (wr.setRow w.heap.size rs) w.heap.size 26 26 rs (0, 0) _ hn under_ints rfl hsize2.out]) rfl ⟨by rw [HRS.out], hB.trans ⟨rfl, rfl, rfl, by simp, fun k hk => setRow_other _ _ _ _ (by omega)⟩⟩
end Go.Proofs.YtccbfcnnbdgcgaaDoor
