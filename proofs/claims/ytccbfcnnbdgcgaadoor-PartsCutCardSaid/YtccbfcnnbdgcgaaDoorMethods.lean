/- What the methods of a Parts tell. -/
import Derived.Test.YtccbfcnnbdgcgaaDoorCut
namespace Go.Proofs.YtccbfcnnbdgcgaaDoor
open Go.RowKit
attribute [local go_sem] S4.val

/-- The cells of an array of 256 bytes. -/
def rcells (r : Nat → Nat) : Array Value := ((List.range 256).map fun x => Value.int .u8 (r x)).toArray
theorem rcells_size (r : Nat → Nat) : (rcells r).size = 256 := by simp [rcells]
theorem rcells_at (r : Nat → Nat) (x : Nat) (h : x < 256) : (rcells r)[x]? = some (.int .u8 (r x)) := by
  unfold rcells
  rw [List.getElem?_toArray, List.getElem?_map, range_at _ _ h]; rfl
theorem rcells_one (r : Nat → Nat) : ∀ v ∈ (rcells r).toList, v.oneCell' = true := by
  intro v hv
  unfold rcells at hv
  simp at hv
  obtain ⟨a, _, rfl⟩ := hv
  rfl
theorem rcells_congr {f g : Nat → Nat} (h : ∀ x, x < 256 → f x = g x) : rcells f = rcells g := by
  unfold rcells
  congr 1
  apply List.map_congr_left
  intro x hx
  rw [h x (List.mem_range.1 hx)]
theorem rcells_inj {f g : Nat → Nat} (h : rcells f = rcells g) : ∀ x, x < 256 → f x = g x := by
  intro x hx
  have h1 := rcells_at f x hx
  rw [h, rcells_at g x hx] at h1
  injection h1 with h1
  injection h1 with _ h1
  omega
theorem size_bytes : (Tryd.prog.info? 29).map (·.size) = some 256 := by kernel_rfl
theorem under_bytes : Tryd.prog.underlying 29 = some (.array 256 5) := by kernel_rfl
theorem under_u8 : Tryd.prog.underlying 5 = some (.int .u8) := by kernel_rfl
theorem size_u8 : (Tryd.prog.info? 5).map (·.size) = some 1 := by kernel_rfl
theorem zero_bytes (w : World) : (zeroValue 29).run Tryd.prog w = .ok (.agg (rcells fun _ => 0)) w := by kernel_rfl
theorem alloc_bytes (w : World) : (Instr.alloc 29 true (.tuple #[])).run Tryd.prog w = .ok (.pointer (some ⟨w.heap.size, 0, none⟩)) (w.alloc (.cells (rcells fun _ => 0) 29)) := by kernel_rfl
theorem eql_nil (p : Nat) (w : World) : (binOp .eql 24 (.pointer (some ⟨p, 0, none⟩)) (.pointer none)).run Tryd.prog w = .ok (.bool false) w := by kernel_rfl
theorem len_any {w : World} {B p : Nat} {r : Nat → Nat} {ss : List S4} (h : PartsAt w B p r ss) :
    Calls Tryd.prog 17 #[.pointer (some ⟨p, 0, none⟩)] w fun e w' => e = .returned (.int .i64 ss.length) ∧ w = w' := by
  obtain ⟨hB, A, c, hp, hown⟩ := h
  have c1 : w.cell? ⟨p, 256, none⟩ = some (.slice A ss.length c) := (cell_of_row w _ 256 _ _ _ hp).trans (pcells_last _ _)
  go_enter Tryd.func17, Tryd.ntmps17
  go_wp2
  go_returns
  exact ⟨rfl, rfl⟩
theorem len_nil (w : World) :
    Calls Tryd.prog 17 #[.pointer none] w fun e w' => e = .returned (.int .i64 0) ∧ w = w' := by
  go_enter Tryd.func17, Tryd.ntmps17
  go_wp2
  go_returns
  exact ⟨rfl, rfl⟩
theorem class_any {w : World} {B p : Nat} {r : Nat → Nat} {ss : List S4} (h : PartsAt w B p r ss) (x : Int) (h0 : 0 ≤ x) (h1 : x < 256) (k : Nat) (hk : r x.toNat = k) (hk2 : k < 256) :
    Calls Tryd.prog 12 #[.pointer (some ⟨p, 0, none⟩), .int .u8 x] w fun e w' => e = .returned (.int .i64 k) ∧ w = w' := by
  obtain ⟨n, rfl⟩ := Int.eq_ofNat_of_zero_le h0
  rw [Int.toNat_natCast] at hk
  have hn : n < 256 := by omega
  obtain ⟨hB, A, c, hp, hown⟩ := h
  have c1 : w.cell? ⟨p, n, none⟩ = some (.int .u8 (k : Int)) := by rw [cell_of_row w _ n _ _ _ hp, pcells_at _ _ _ hn, hk]
  clear hk
  go_enter Tryd.func12, Tryd.ntmps12
  go_wp2
  go_returns
  exact ⟨rfl, rfl⟩
theorem class_nil (x : Int) (w : World) :
    Calls Tryd.prog 12 #[.pointer none, .int .u8 x] w fun e w' => e = .returned (.int .i64 0) ∧ w = w' := by
  go_enter Tryd.func12, Tryd.ntmps12
  go_wp2
  go_returns
  exact ⟨rfl, rfl⟩
set_option maxRecDepth 100000 in
theorem remap_any {w : World} {B p : Nat} {r : Nat → Nat} {ss : List S4} (h : PartsAt w B p r ss) :
    Calls Tryd.prog 11 #[.pointer (some ⟨p, 0, none⟩)] w fun e w' => e = .returned (.agg (rcells r)) ∧ Below w.heap.size w w' := by
  obtain ⟨hB, A, c, hp, hown⟩ := h
  have z1 := zero_bytes
  have z2 := alloc_bytes
  have hc : Hid (∀ j v, (rcells r).toList[j]? = some v → (w.alloc (.cells (rcells fun _ => 0) 29)).cell? ((⟨p, 0, none⟩ : Addr).add j) = some v) := fun j v hv => by
    rw [Array.getElem?_toList] at hv
    have hj : j < 256 := by have := (Array.getElem?_eq_some_iff.1 hv).1; rw [rcells_size] at this; exact this
    have e : (⟨p, 0, none⟩ : Addr).add j = ⟨p, j, none⟩ := by unfold Addr.add; split <;> simp_all
    rw [e, cell_of_row _ _ _ _ _ _ (blk_alloc hp _), pcells_at _ _ _ hj, ← rcells_at r j hj, hv]
  go_enter Tryd.func11, Tryd.ntmps11
  go_wp2_with (first | ((with_reducible refine at_slot 9 _ _ _ _ _ ?_); refine wpList_load_at rfl _ _ rfl _ rfl (rcells r).toList hc.out _ under_bytes rfl ?c1 ?_) | ((with_reducible refine at_store 29 _ _ _ _ _ _ ?_); refine wpList_store_fresh rfl _ _ _ rfl rfl (rcells r) _ _ rfl (rcells_one r) ?c2 ?c3 ?_))
  case c1 => rw [Array.length_toList, rcells_size]; exact size_bytes
  case c2 => rw [rcells_size, rcells_size]
  case c3 => rw [rcells_size]; exact size_bytes
  refine bodyPost_ret (v := .agg (rcells r)) (results_cell_row (p := 2) (ty := 29) rfl _ _ w.heap.size 29 (rcells r) (0, 0) _ rfl (heap_alloc_new w _) under_bytes rfl (by rw [rcells_size]; exact size_bytes)) rfl ⟨rfl, (Below.refl _ _).alloc (Nat.le_refl _) _⟩
set_option maxRecDepth 100000 in
theorem remap_nil (w : World) :
    Calls Tryd.prog 11 #[.pointer none] w fun e w' => e = .returned (.agg (rcells fun _ => 0)) ∧ Below w.heap.size w w' := by
  have z1 := zero_bytes
  have z2 := alloc_bytes
  go_enter Tryd.func11, Tryd.ntmps11
  go_wp2_with ((with_reducible refine at_store 29 _ _ _ _ _ _ ?_); refine wpList_store_fresh rfl _ _ _ rfl rfl (rcells fun _ => 0) _ _ rfl (rcells_one _) ?c2 ?c3 ?_)
  case c2 => rw [rcells_size]
  case c3 => rw [rcells_size]; exact size_bytes
  refine bodyPost_ret (v := .agg (rcells fun _ => 0)) (results_cell_row (p := 2) (ty := 29) rfl _ _ w.heap.size 29 (rcells fun _ => 0) (0, 0) _ rfl (heap_alloc_new w _) under_bytes rfl (by rw [rcells_size]; exact size_bytes)) rfl ⟨rfl, (Below.refl _ _).alloc (Nat.le_refl _) _⟩
/-- The set of a class: that of the number, or none. -/
def ofClass (ss : List S4) (c : Int) : S4 := if c < 0 then S4.zero else ss.getD c.toNat S4.zero
theorem of_class_any {w : World} {B p : Nat} {r : Nat → Nat} {ss : List S4} (h : PartsAt w B p r ss) (c : Int) :
    Calls Tryd.prog 14 #[.pointer (some ⟨p, 0, none⟩), .int .i64 c] w fun e w' => e = .returned (ofClass ss c).val ∧ Below w.heap.size w w' := by
  have hlen : ∀ o, Calls Tryd.prog 17 #[.pointer (some ⟨p, 0, none⟩)] (w.alloc o) fun e w' => e = .returned (.int .i64 ss.length) ∧ w.alloc o = w' := fun o => len_any (h.below ((Below.refl _ _).alloc (Nat.le_refl _) o))
  have HL := Lib.hid hlen
  clear hlen
  obtain ⟨hB, A, c0, hp, hown⟩ := h
  have hp1 := fun o => blk_alloc hp o
  by_cases h0 : c < 0
  · have d0 : decide (c < 0) = true := by simp [h0]
    have E : Hid (S4.zero = ofClass ss c) := by unfold ofClass; rw [if_pos h0]; rfl
    clear h0
    go_enter Tryd.func14, Tryd.ntmps14
    go_wp2
    refine bodyPost_ret (v := S4.zero.val) (by simp [results, Tryd.results14, go_sem]; exact ⟨rfl, rfl, rfl, rfl⟩) rfl ⟨by rw [E.out], by go_grown⟩
  · have d0 : decide (c < 0) = false := by simp; omega
    by_cases h1 : (ss.length : Int) ≤ c
    · have d1 : decide ((ss.length : Int) ≤ c) = true := by simp [h1]
      have E : Hid (S4.zero = ofClass ss c) := by
        unfold ofClass
        rw [if_neg h0, List.getD_eq_getElem?_getD, List.getElem?_eq_none (by omega)]; rfl
      clear h0 h1
      go_enter Tryd.func14, Tryd.ntmps14
      go_wp2_with (go_at_call 17; refine (HL.out _).mono ?_; rintro e w' ⟨rfl, rfl⟩)
      refine bodyPost_ret (v := S4.zero.val) (by simp [results, Tryd.results14, go_sem]; exact ⟨rfl, rfl, rfl, rfl⟩) rfl ⟨by rw [E.out], by go_grown⟩
    · have d1 : decide ((ss.length : Int) ≤ c) = false := by simp; omega
      obtain ⟨n, rfl⟩ := Int.eq_ofNat_of_zero_le (by omega : 0 ≤ c)
      have hn : n < ss.length := by omega
      have E : Hid (ss[n] = ofClass ss (n : Int)) := by
        unfold ofClass
        rw [if_neg h0, List.getD_eq_getElem?_getD, Int.toNat_natCast, List.getElem?_eq_getElem hn]; rfl
      obtain ⟨ad, rfl, _, hbl, hcells⟩ := row_set (RowAt.own hown) (List.getElem?_eq_getElem hn)
      have hc : Hid (∀ j v, (ss[n]).cells.toList[j]? = some v → (w.alloc (.cells #[.int .u64 0, .int .u64 0, .int .u64 0, .int .u64 0] 35)).cell? ((ad.add (n * 4)).add j) = some v) := fun j v hv => by
        have := hcells j v hv
        exact (World.cell?_of_block (w := w) (Below.heap_alloc _ _ _ (World.block_lt_of_cell? w _ this))).trans this
      have c1 : w.cell? ⟨p, 256, none⟩ = some (.slice (some ad) ss.length c0) := (cell_of_row w _ 256 _ _ _ hp).trans (pcells_last _ _)
      have hpz := blk_lt hp
      clear h0 h1 hcells hp1 hp
      go_enter Tryd.func14, Tryd.ntmps14
      go_wp2_with (first | (go_at_call 17; refine (HL.out _).mono ?_; rintro e w' ⟨rfl, rfl⟩) | ((with_reducible refine at_slot 20 _ _ _ _ _ ?_); refine wpList_load_at rfl _ _ rfl _ rfl (ss[n]).cells.toList hc.out _ under_set rfl size_set ?_))
      refine bodyPost_ret (v := (ss[n]).val) (by simp [results, Tryd.results14, go_sem]) rfl ⟨by rw [E.out], by go_grown⟩
theorem of_class_nil (c : Int) (w : World) :
    Calls Tryd.prog 14 #[.pointer none, .int .i64 c] w fun e w' => e = .returned S4.zero.val ∧ Below w.heap.size w w' := by
  by_cases h0 : c < 0
  · have d0 : decide (c < 0) = true := by simp [h0]
    clear h0
    go_enter Tryd.func14, Tryd.ntmps14
    go_wp2
    refine bodyPost_ret (v := S4.zero.val) (by simp [results, Tryd.results14, go_sem]; exact ⟨rfl, rfl, rfl, rfl⟩) rfl ⟨rfl, by go_grown⟩
  · have d0 : decide (c < 0) = false := by simp; omega
    have d1 : decide (0 ≤ c) = true := by simp; omega
    clear h0
    go_enter Tryd.func14, Tryd.ntmps14
    go_wp2_with (go_at_call 17; refine (len_nil _).mono ?_; rintro e w' ⟨rfl, rfl⟩)
    refine bodyPost_ret (v := S4.zero.val) (by simp [results, Tryd.results14, go_sem]; exact ⟨rfl, rfl, rfl, rfl⟩) rfl ⟨rfl, by go_grown⟩
/-- A class's least byte, and whether there is one. -/
def sampleB (s : S4) : Int := max (leastI s) 0
theorem leastI_lt (s : S4) : -1 ≤ leastI s ∧ leastI s < 256 := by
  unfold leastI
  cases h : s.least with
  | none => simp
  | some b =>
    have := List.mem_range.1 (List.mem_of_find?_eq_some h)
    simp only
    omega
theorem sampleB_lt (s : S4) : 0 ≤ sampleB s ∧ sampleB s < 256 := by have := leastI_lt s; unfold sampleB; omega
theorem sample_any {w : World} {B p : Nat} {r : Nat → Nat} {ss : List S4} (h : PartsAt w B p r ss) (hT : TabAt w) (c : Int) :
    Calls Tryd.prog 15 #[.pointer (some ⟨p, 0, none⟩), .int .i64 c] w fun e w' => e = .returned (.tuple #[.int .u8 (sampleB (ofClass ss c)), .bool (decide (0 ≤ leastI (ofClass ss c)))]) ∧ Below w.heap.size w w' := by
  obtain ⟨l0, l1⟩ := leastI_lt (ofClass ss c)
  go_enter Tryd.func15, Tryd.ntmps15
  go_wp2_with (first | (go_at_call 14; refine (of_class_any h c).mono ?_; rintro e w1 ⟨rfl, hb1⟩) | (go_at_call 26; refine (least_any (ofClass ss c) _ (hT.after hb1)).mono ?_; rintro e w2 ⟨rfl, hb2⟩))
  all_goals
    go_returns
    refine ⟨?_, below_all hb1 hb2⟩
    first
      | (have e : sampleB (ofClass ss c) = 0 := by unfold sampleB; omega
         rw [e]; rfl)
      | (have e : sampleB (ofClass ss c) = leastI (ofClass ss c) := by unfold sampleB; omega
         rw [e]; rfl)
theorem sample_nil (c : Int) (w : World) (hT : TabAt w) :
    Calls Tryd.prog 15 #[.pointer none, .int .i64 c] w fun e w' => e = .returned (.tuple #[.int .u8 0, .bool false]) ∧ Below w.heap.size w w' := by
  have hl : leastI S4.zero = -1 := by decide +kernel
  go_enter Tryd.func15, Tryd.ntmps15
  go_wp2_with (first | (go_at_call 14; refine (of_class_nil c _).mono ?_; rintro e w1 ⟨rfl, hb1⟩) | (go_at_call 26; refine (least_any S4.zero _ (hT.after hb1)).mono ?_; rw [hl]; rintro e w2 ⟨rfl, hb2⟩))
  go_returns
  exact ⟨rfl, below_all hb1 hb2⟩
theorem under_u64 : Tryd.prog.underlying 33 = some (.int .u64) := by kernel_rfl
theorem size_u64 : (Tryd.prog.info? 33).map (·.size) = some 1 := by kernel_rfl
theorem same_words (s t : S4) : sameOn (fun i => ((s.word i).toNat : Int)) (fun i => ((t.word i).toNat : Int)) 0 4 = decide (s = t) := by
  rw [Bool.eq_iff_iff, sameOn_iff]
  simp only [decide_eq_true_eq]
  constructor
  · intro h
    have e : ∀ i, i < 4 → s.word i = t.word i := fun i hi => UInt64.toNat_inj.1 (by have := h i (by omega) (by omega); omega)
    have h0 := e 0 (by omega)
    have h1 := e 1 (by omega)
    have h2 := e 2 (by omega)
    have h3 := e 3 (by omega)
    simp [S4.word] at h0 h1 h2 h3
    cases s; cases t; simp_all
  · rintro rfl i _ _; rfl
theorem words_at (s : S4) (i : Nat) (h : i < 4) : (#[Value.int .u64 (s.w0.toNat : Int), .int .u64 s.w1.toNat, .int .u64 s.w2.toNat, .int .u64 s.w3.toNat] : Array Value)[i]? = some (.int .u64 ((s.word i).toNat : Int)) := by
  have h4 : i = 0 ∨ i = 1 ∨ i = 2 ∨ i = 3 := by omega
  rcases h4 with rfl | rfl | rfl | rfl <;> rfl
theorem equalIn_set (s t : S4) (w : World) :
    (Op.equalIn 10000 35 (.agg #[.int .u64 s.w0.toNat, .int .u64 s.w1.toNat, .int .u64 s.w2.toNat, .int .u64 s.w3.toNat]) (.agg #[.int .u64 t.w0.toNat, .int .u64 t.w1.toNat, .int .u64 t.w2.toNat, .int .u64 t.w3.toNat])).run Tryd.prog w = .ok (decide (s = t)) w := by
  rw [← same_words]
  exact run_equalIn_ints 9998 _ _ 4 _ under_set under_u64 size_u64 _ _ _ _ (words_at s) (words_at t)
theorem equalIn_zero (s : S4) (w : World) :
    (Op.equalIn 10000 35 (.agg #[.int .u64 s.w0.toNat, .int .u64 s.w1.toNat, .int .u64 s.w2.toNat, .int .u64 s.w3.toNat]) (.agg #[.int .u64 0, .int .u64 0, .int .u64 0, .int .u64 0])).run Tryd.prog w = .ok (decide (s = S4.zero)) w :=
  equalIn_set s S4.zero w
theorem equalIn_bytes (f g : Nat → Nat) (w : World) :
    (Op.equalIn 10000 29 (.agg (rcells f)) (.agg (rcells g))).run Tryd.prog w = .ok (sameOn (fun i => (f i : Int)) (fun i => (g i : Int)) 0 256) w :=
  run_equalIn_ints 9998 _ _ 256 _ under_bytes under_u8 size_u8 _ _ _ _ (rcells_at f) (rcells_at g)
attribute [local go_sem] equalIn_set equalIn_zero equalIn_bytes
/-- Which classes lie in a set. -/
def classesIn (ss : List S4) (a : S4) : List Nat := (List.range ss.length).filter fun c => (ss.getD c S4.zero).and a.not == S4.zero
def intCells (l : List Nat) : List Value := l.map fun (c : Nat) => .int .i64 (c : Int)
def ClassesPost (ss : List S4) (a : S4) (w : World) (e : Ending) (w' : World) : Prop :=
  ∃ A c, e = .returned (.slice A (classesIn ss a).length c) ∧ RowAt w' w.heap.size w'.heap.size A (intCells (classesIn ss a)) ∧ Below w.heap.size w w'
def clTo (ss : List S4) (a : S4) (n : Nat) : List Nat := (List.range n).filter fun c => (ss.getD c S4.zero).and a.not == S4.zero
theorem clTo_succ (ss : List S4) (a : S4) (n : Nat) : clTo ss a (n + 1) = clTo ss a n ++ (if (ss.getD n S4.zero).and a.not = S4.zero then [n] else []) := by
  unfold clTo
  rw [List.range_succ, List.filter_append]
  congr 1
  by_cases h : (ss.getD n S4.zero).and a.not = S4.zero
  · rw [if_pos h, List.filter_cons_of_pos (by exact beq_iff_eq.2 h)]; rfl
  · rw [if_neg h, List.filter_cons_of_neg (by exact fun e => h (beq_iff_eq.1 e))]; rfl
theorem clTo_len (ss : List S4) (a : S4) (n : Nat) : (clTo ss a n).length ≤ n := by
  have := List.length_filter_le (fun c => (ss.getD c S4.zero).and a.not == S4.zero) (List.range n)
  simpa [clTo] using this
def RCl (ss : List S4) (a : S4) (p : Nat) (r : Nat → Nat) (B : Nat) (w : World) (v i : Value) (wr : World) : Prop := ∃ n : Nat, n ≤ ss.length ∧ i = .int .i64 (n : Int) ∧ PartsAt wr B p r ss ∧
  wr.heap[w.heap.size]? = some (.cells a.cells 35 (0, 0)) ∧ wr.ownsRow (w.heap.size + 1) 3 1 v (clTo ss a n).length (intCells (clTo ss a n)) ∧ Below w.heap.size w wr
theorem info_int : (Tryd.prog.info? 3).map (fun i => (i.zero, i.size, i.bytes)) = some (some (.int .i64 0), 1, 8) := by kernel_rfl
theorem held9_keep {W0 wx w1 : World} {p0 p1 p2 p3 p4 p5 p6 p7 p8 : Addr} {v0 v1 v2 v3 v4 v5 v6 v7 v8 : Value}
    (h : wx.cell? p0 = some v0 ∧ wx.cell? p1 = some v1 ∧ wx.cell? p2 = some v2 ∧ wx.cell? p3 = some v3 ∧ wx.cell? p4 = some v4 ∧ wx.cell? p5 = some v5 ∧ wx.cell? p6 = some v6 ∧ wx.cell? p7 = some v7 ∧ wx.cell? p8 = some v8 ∧ Below W0.heap.size W0 wx)
    (hb : Below wx.heap.size wx w1) :
    w1.cell? p0 = some v0 ∧ w1.cell? p1 = some v1 ∧ w1.cell? p2 = some v2 ∧ w1.cell? p3 = some v3 ∧ w1.cell? p4 = some v4 ∧ w1.cell? p5 = some v5 ∧ w1.cell? p6 = some v6 ∧ w1.cell? p7 = some v7 ∧ w1.cell? p8 = some v8 ∧ Below W0.heap.size W0 w1 := by
  obtain ⟨h0, h1, h2, h3, h4, h5, h6, h7, h8, h9⟩ := h
  have k : ∀ {p : Addr} {v : Value}, wx.cell? p = some v → w1.cell? p = some v := fun {p v} h => (hb.cell (World.block_lt_of_cell? wx p h)).trans h
  exact ⟨k h0, k h1, k h2, k h3, k h4, k h5, k h6, k h7, k h8, below_all h9 hb⟩
set_option maxRecDepth 100000 in
set_option maxHeartbeats 1000000 in
theorem classes_any {w : World} {B p : Nat} {r : Nat → Nat} {ss : List S4} (h : PartsAt w B p r ss) (hss : ss.length ≤ 256) (a : S4) :
    Calls Tryd.prog 18 #[.pointer (some ⟨p, 0, none⟩), a.val] w (ClassesPost ss a w) := by
  obtain ⟨i0, hi, hz0, hz1, hz2⟩ := info_parts info_int
  have hlen : Hid (∀ o, Calls Tryd.prog 17 #[.pointer (some ⟨p, 0, none⟩)] (w.alloc o) fun e w' => e = .returned (.int .i64 ss.length) ∧ w.alloc o = w') := fun o => len_any (h.below ((Below.refl _ _).alloc (Nat.le_refl _) o))
  go_enter Tryd.func18, Tryd.ntmps18
  go_wp2_with (go_at_call 17; refine (hlen.out _).mono ?_; rintro e w' ⟨rfl, rfl⟩)
  go_loopw [4, 8] (fun v i wr => RCl ss a p r B w v i wr) (fun _ i _ => ss.length - (intOf i).toNat)
  case atStart => exact ⟨0, Nat.zero_le _, rfl, h.below ((Below.refl _ _).alloc (Nat.le_refl _) _), heap_alloc_new _ _, World.ownsRow_nil _ _ _ _, (Below.refl _ _).alloc (Nat.le_refl _) _⟩
  case round =>
    obtain ⟨n, hn, rfl, hP, hba, hown, hB⟩ := hrel
    by_cases hlt : n < ss.length
    · obtain ⟨hBp, A, c0, hp, hownP⟩ := hP
      obtain ⟨ad, rfl, _, hbl, hcells⟩ := row_set (RowAt.own hownP) (List.getElem?_eq_getElem hlt)
      have c1 : wr.cell? ⟨p, 256, none⟩ = some (.slice (some ad) ss.length c0) := (cell_of_row wr _ 256 _ _ _ hp).trans (pcells_last _ _)
      generalize hs : ss[n] = s at *
      have e0 := hcells 0 _ rfl
      have e1 := hcells 1 _ rfl
      have e2 := hcells 2 _ rfl
      have e3 := hcells 3 _ rfl
      rw [add_one_addr _ _ (by decide)] at e1 e2 e3
      rw [show ((ad.add (n * 4)).add 0) = ad.add (n * 4) from rfl] at e0
      have a0 := cell_of_row _ _ 0 _ _ _ hba
      have a1 := cell_of_row _ _ 1 _ _ _ hba
      have a2 := cell_of_row _ _ 2 _ _ _ hba
      have a3 := cell_of_row _ _ 3 _ _ _ hba
      have hbW : Below wr.heap.size wr wr := Below.refl _ _
      have HBA := Lib.hid hba
      have hwz := blk_lt hba
      have hstep := Lib.hid (clTo_succ ss a n)
      have hgd : Hid (ss.getD n S4.zero = s) := by
        rw [List.getD_eq_getElem?_getD, List.getElem?_eq_getElem hlt, hs]; rfl
      have hPP : Hid (PartsAt wr B p r ss) := ⟨hBp, _, c0, hp, hownP⟩
      have hcl := clTo_len ss a n
      clear hcells hba hp hownP hs
      go_upto_region 4 with (fail)
      go_region_held3 (fun w' => w'.cell? ⟨p, 256, none⟩ = some (.slice (some ad) ss.length c0) ∧
            w'.cell? ⟨w.heap.size, 0, none⟩ = some (.int .u64 a.w0.toNat) ∧ w'.cell? ⟨w.heap.size, 1, none⟩ = some (.int .u64 a.w1.toNat) ∧ w'.cell? ⟨w.heap.size, 2, none⟩ = some (.int .u64 a.w2.toNat) ∧ w'.cell? ⟨w.heap.size, 3, none⟩ = some (.int .u64 a.w3.toNat) ∧
            w'.cell? (ad.add (n * 4)) = some (.int .u64 s.w0.toNat) ∧ w'.cell? ⟨(ad.add (n * 4)).block, (ad.add (n * 4)).off + 1, none⟩ = some (.int .u64 s.w1.toNat) ∧ w'.cell? ⟨(ad.add (n * 4)).block, (ad.add (n * 4)).off + 2, none⟩ = some (.int .u64 s.w2.toNat) ∧ w'.cell? ⟨(ad.add (n * 4)).block, (ad.add (n * 4)).off + 3, none⟩ = some (.int .u64 s.w3.toNat) ∧ Below wr.heap.size wr w')
          (first | (refine ⟨by assumption, by assumption, by assumption, by assumption, by assumption, by assumption, by assumption, by assumption, by assumption, by first | assumption | exact hbW.drew⟩) | (go_split_ands; exact held9_keep ⟨by assumption, by assumption, by assumption, by assumption, by assumption, by assumption, by assumption, by assumption, by assumption, by first | assumption | exact hbW.drew⟩ hb1))
          (first | (go_at_call 21; refine (and_any _ _ _).mono ?_; rintro e w1 ⟨rfl, hb1⟩) | (go_at_call 22; refine (not_any _ _).mono ?_; rintro e w1 ⟨rfl, hb1⟩))
      rename_i wA hbA _
      have hbW1 : Below wr.heap.size wr w1 := below_all (below_all hbW.drew hbA) hb1
      clear hbA hb1 a0 a1 a2 a3 e0 e1 e2 e3 c1
      have hP4 := hPP.out.below hbW1
      have hba4 := blk_below HBA.out hbW1
      have hown4 := own_below hown hbW1
      have hB4 := below_seq hB hbW1 hB.size
      have hz4 := blk_lt hba4
      have H4 := Lib.hid hba4
      clear hba4
      by_cases hq : s.and a.not = S4.zero
      · have hd : decide (s.and a.not = S4.zero) = true := by simp [hq]
        have hq' := Lib.hid hq
        clear hq
        go_wp2_with (at_builtin; refine wpList_push rfl _ _ 42 rfl (w.heap.size + 1) 3 i0 (.int .i64 0) 1 8 Tryd.underlying42 hi hz0 hz1 hz2 rfl (by decide) _ _ _ rfl hown4 1 _ _ rfl rfl rfl (by omega) (by decide) hz4 ?_; intro v7 w7 hown7 hg7 _)
        go_roundw
        case rel =>
          have hr : ∀ k, u4.ownBlock = some k → w.heap.size < k := fun k hk => by have := own_row hown4 k hk; omega
          refine ⟨n + 1, hlt, by go_num, ?_, blk_grown H4.out hg7 (own_ne hown4 (by omega)), ?_, hB4.grown hg7 (by omega) fun k hk => by have := hr k hk; omega⟩
          · obtain ⟨h1, A, c, h2, h3⟩ := hP4
            refine ⟨h1, A, c, blk_grown h2 hg7 (own_ne_type hown4 h2 (by decide)), h3.kept hg7 (own_ne_own h3 hown4 (by decide))⟩
          · rw [hstep.out, hgd.out, if_pos hq'.out, List.length_append]
            simpa [intCells] using hown7
        case measure => simp [intOf]; omega
      · have hd : decide (s.and a.not = S4.zero) = false := by simp [hq]
        have hq' := Lib.hid hq
        clear hq
        go_wp2
        go_roundw
        case rel =>
          refine ⟨n + 1, hlt, by go_num, hP4, H4.out, ?_, hB4⟩
          rw [hstep.out, hgd.out, if_neg hq'.out, List.append_nil]
          exact hown4
        case measure => simp [intOf]; omega
    · obtain rfl : n = ss.length := by omega
      obtain ⟨A, c0, hA⟩ := own_slice hown
      subst hA
      go_wp2
      go_returns
      exact ⟨A, c0, rfl, (RowAt.own hown).mono (by omega) (Nat.le_refl _), hB⟩
end Go.Proofs.YtccbfcnnbdgcgaaDoor
