/- What Cut computes: the classes of some sets. -/
import Derived.Test.YtccbfcnnbdgcgaaDoorParts
import Derived.Deep.RegionHeld3
namespace Go.Proofs.YtccbfcnnbdgcgaaDoor
open Go.RowKit
attribute [local go_sem] S4.val

/-- The sets behind the first ones by which is cut. -/
def cutTo (l : List S4) (n : Nat) : List S4 := cutSets (l.take n)
theorem cutTo_zero (l : List S4) : cutTo l 0 = [S4.of 0 255] := rfl
theorem cutTo_succ (l : List S4) (n : Nat) (h : n < l.length) : cutTo l (n + 1) = (cutTo l n).flatMap (cutOne l[n]) := by
  unfold cutTo cutSets
  rw [List.take_succ_eq_append_getElem h, List.foldl_append]; rfl
theorem cutTo_len (l : List S4) (n : Nat) : (cutTo l n).length ≤ 256 := parted_len (parted _)
theorem cutOne_len (a s : S4) : (cutOne a s).length ≤ 2 := by
  unfold cutOne
  exact Nat.le_trans (List.length_filter_le _ _) (by simp)
theorem flat_len (a : S4) (l : List S4) : (l.flatMap (cutOne a)).length ≤ 2 * l.length := by
  induction l with
  | nil => simp
  | cons s l ih => rw [List.flatMap_cons, List.length_append, List.length_cons]; have := cutOne_len a s; omega
/-- What stays while one set is cut by. -/
structure CutF (w : World) (B : Nat) (A : Option Addr) (sets : List S4) (ga : Nat) (a : S4) (wi : World) : Prop where
  row : RowAt wi 0 B A (setsCells sets)
  a : wi.heap[ga]? = some (.cells a.cells 35 (0, 0))
  b : Below w.heap.size w wi
  z : B ≤ ga ∧ w.heap.size ≤ B
theorem CutF.below {w : World} {B : Nat} {A : Option Addr} {sets : List S4} {ga : Nat} {a : S4} {wi wj : World} (h : CutF w B A sets ga a wi) (hb : Below wi.heap.size wi wj) : CutF w B A sets ga a wj :=
  ⟨h.row.keep (hb.mono (by have := blk_lt h.a; have := h.z; omega)), blk_below h.a hb, below_seq h.b hb h.b.size, h.z⟩
theorem CutF.alloc {w : World} {B : Nat} {A : Option Addr} {sets : List S4} {ga : Nat} {a : S4} {wi : World} (h : CutF w B A sets ga a wi) (o : Obj) : CutF w B A sets ga a (wi.alloc o) := h.below ((Below.refl _ _).alloc (Nat.le_refl _) o)
theorem CutF.grown {w : World} {B : Nat} {A : Option Addr} {sets : List S4} {ga : Nat} {a : S4} {wi wj : World} (h : CutF w B A sets ga a wi) {row : Option Nat} (hg : wi.grownBy wj row) (hr : ∀ k, row = some k → ga < k) : CutF w B A sets ga a wj :=
  ⟨h.row.grown hg fun k hk => .inr (by have := hr k hk; have := h.z; omega), blk_grown h.a hg (fun e => by have := hr ga e.symm; omega),
    h.b.grown hg h.b.size fun k hk => by have := hr k hk; have := h.z; omega, h.z⟩
def C1 (l : List S4) (w : World) (v i : Value) (wr : World) : Prop := ∃ n : Nat, n ≤ l.length ∧ i = .int .i64 (n : Int) ∧ wr.ownsRow w.heap.size 35 4 v (cutTo l n).length (setsCells (cutTo l n)) ∧ Below w.heap.size w wr
def C2 (w : World) (B : Nat) (A : Option Addr) (sets : List S4) (ga : Nat) (a : S4) (v j : Value) (wi : World) : Prop := ∃ m : Nat, m ≤ sets.length ∧ j = .int .i64 (m : Int) ∧ CutF w B A sets ga a wi ∧
  wi.ownsRow (ga + 1) 35 4 v ((sets.take m).flatMap (cutOne a)).length (setsCells ((sets.take m).flatMap (cutOne a)))
def C3 (w : World) (B : Nat) (A : Option Addr) (sets : List S4) (ga : Nat) (a : S4) (pre pair : List S4) (gp : Nat) (v k : Value) (wi : World) : Prop := ∃ q : Nat, q ≤ 2 ∧ k = .int .i64 (q : Int) ∧ v.ownBlock ≠ some gp ∧ CutF w B A sets ga a wi ∧
  wi.heap[gp]? = some (.cells (setsCells pair).toArray 35 (0, 0)) ∧
  wi.ownsRow (ga + 1) 35 4 v (pre ++ (pair.take q).filter fun t => decide (0 < t.count)).length (setsCells (pre ++ (pair.take q).filter fun t => decide (0 < t.count)))
theorem pair_cells {wi : World} {gp : Nat} {pair : List S4} (h : wi.heap[gp]? = some (.cells (setsCells pair).toArray 35 (0, 0))) {q : Nat} {t : S4} (ht : pair[q]? = some t) :
    ∀ j v, t.cells.toList[j]? = some v → wi.cell? ((⟨gp, q * 4, none⟩ : Addr).add j) = some v := by
  intro j v hv
  have hj : j < 4 := by have := (List.getElem?_eq_some_iff.1 hv).1; simpa using this
  have e : (⟨gp, q * 4, none⟩ : Addr).add j = ⟨gp, q * 4 + j, none⟩ := by unfold Addr.add; split <;> simp_all
  rw [e, cell_of_row wi _ _ _ _ _ h, List.getElem?_toArray, setsCells_at ht j hj, hv]
theorem filter_step {pair : List S4} {q : Nat} {t : S4} (ht : pair[q]? = some t) : ((pair.take (q + 1)).filter fun t => decide (0 < t.count)) = ((pair.take q).filter fun t => decide (0 < t.count)) ++ (if 0 < t.count then [t] else []) := by
  obtain ⟨hq, hg⟩ := List.getElem?_eq_some_iff.1 ht
  rw [List.take_succ_eq_append_getElem hq, List.filter_append, hg]
  congr 1
  by_cases h : 0 < t.count <;> simp [h]
theorem filter_len (l : List S4) : (l.filter fun t => decide (0 < t.count)).length ≤ l.length := List.length_filter_le _ _
theorem PartsAt.low {w : World} {B B' p : Nat} {r : Nat → Nat} {ss : List S4} (h : PartsAt w B p r ss) (hB : B' ≤ B) : PartsAt w B' p r ss := by
  obtain ⟨h1, A, c, h2, h3⟩ := h
  exact ⟨by omega, A, c, h2, own_base h3 hB⟩
def CutPost (l : List S4) (w : World) (e : Ending) (w' : World) : Prop :=
  ∃ p, e = .returned (.pointer (some ⟨p, 0, none⟩)) ∧ PartsAt w' w.heap.size p (remapOf l) (setsOf l) ∧ Below w.heap.size w w'
theorem held_keep {W0 wx w1 : World} {ga gs : Nat} {a s : S4} (h : wx.cell? ⟨ga, 0, none⟩ = some (.int .u64 a.w0.toNat) ∧ wx.cell? ⟨ga, 1, none⟩ = some (.int .u64 a.w1.toNat) ∧ wx.cell? ⟨ga, 2, none⟩ = some (.int .u64 a.w2.toNat) ∧ wx.cell? ⟨ga, 3, none⟩ = some (.int .u64 a.w3.toNat) ∧
      wx.cell? ⟨gs, 0, none⟩ = some (.int .u64 s.w0.toNat) ∧ wx.cell? ⟨gs, 1, none⟩ = some (.int .u64 s.w1.toNat) ∧ wx.cell? ⟨gs, 2, none⟩ = some (.int .u64 s.w2.toNat) ∧ wx.cell? ⟨gs, 3, none⟩ = some (.int .u64 s.w3.toNat) ∧ Below W0.heap.size W0 wx)
    (hb : Below wx.heap.size wx w1) :
    w1.cell? ⟨ga, 0, none⟩ = some (.int .u64 a.w0.toNat) ∧ w1.cell? ⟨ga, 1, none⟩ = some (.int .u64 a.w1.toNat) ∧ w1.cell? ⟨ga, 2, none⟩ = some (.int .u64 a.w2.toNat) ∧ w1.cell? ⟨ga, 3, none⟩ = some (.int .u64 a.w3.toNat) ∧
      w1.cell? ⟨gs, 0, none⟩ = some (.int .u64 s.w0.toNat) ∧ w1.cell? ⟨gs, 1, none⟩ = some (.int .u64 s.w1.toNat) ∧ w1.cell? ⟨gs, 2, none⟩ = some (.int .u64 s.w2.toNat) ∧ w1.cell? ⟨gs, 3, none⟩ = some (.int .u64 s.w3.toNat) ∧ Below W0.heap.size W0 w1 := by
  obtain ⟨h0, h1, h2, h3, h4, h5, h6, h7, h8⟩ := h
  have k : ∀ {p : Addr} {v : Value}, wx.cell? p = some v → w1.cell? p = some v := fun {p v} h => (hb.cell (World.block_lt_of_cell? wx p h)).trans h
  exact ⟨k h0, k h1, k h2, k h3, k h4, k h5, k h6, k h7, below_all h8 hb⟩
set_option maxRecDepth 100000 in
set_option maxHeartbeats 1000000 in
theorem cut_any (l : List S4) (hl : l.length ≤ 1099511627776) (AL : Option Addr) (cL : Nat) (w : World) (hrow : RowAt w 0 w.heap.size AL (setsCells l)) :
    Calls Tryd.prog 9 #[.slice AL l.length cL] w (CutPost l w) := by
  obtain ⟨i0, hi, hz0, hz1, hz2⟩ := info_parts info_set
  go_enter Tryd.func9, Tryd.ntmps9
  go_wp2_with (go_at_call 23; refine (of_any 0 255 (by omega) (by omega) _).mono ?_; rintro e w1 ⟨rfl, hb1⟩)
  go_loopw [4, 17] (fun v i wr => C1 l w v i wr) (fun _ i _ => l.length - (intOf i).toNat)
  case atStart =>
    refine ⟨0, Nat.zero_le _, rfl, ?_, (hb1.alloc hb1.size _).alloc (Nat.le_trans hb1.size (by simp)) _⟩
    rw [cutTo_zero]
    refine ⟨by rw [setsCells_length], .inr ⟨w1.heap.size + 1, 1, _, rfl, by have := hb1.size; omega, by simpa using heap_alloc_new (w1.alloc (.cells (S4.of 0 255).cells 35)) (.cells (S4.of 0 255).cells 35), by simp, by unfold maxLen; omega, by simp, by simp [setsCells]⟩⟩
  case round =>
    obtain ⟨n, hn, rfl, hown, hB⟩ := hrel
    by_cases hlt : n < l.length
    · obtain ⟨ad, rfl, _, hbl, hcells⟩ := row_set (hrow.keep hB) (List.getElem?_eq_getElem hlt)
      have hc := Lib.hid hcells
      clear hcells
      have hclen := cutTo_len l n
      obtain ⟨A, c0, hA⟩ := own_slice hown
      subst hA
      generalize ha : l[n] = a at *
      have HA := Lib.hid ha
      clear ha
      go_wp2_with ((with_reducible refine at_slot 20 _ _ _ _ _ ?_); refine wpList_load_at rfl _ _ rfl _ rfl a.cells.toList hc.out _ under_set rfl size_set ?_)
      have hF : CutF w wr.heap.size A (cutTo l n) wr.heap.size a (wr.alloc (.cells a.cells 35)) :=
        ⟨((RowAt.own hown).mono (Nat.zero_le _) (Nat.le_refl _)).keep ((Below.refl _ _).alloc (Nat.le_refl _) _), heap_alloc_new _ _, hB.alloc hB.size _, Nat.le_refl _, hB.size⟩
      obtain ⟨w2, rfl⟩ : ∃ w2 : World, w2 = wr := ⟨_, rfl⟩
      go_loopw [7, 23] (fun v j wi => C2 w w2.heap.size A (cutTo l n) w2.heap.size a v j wi) (fun _ j _ => (cutTo l n).length - (intOf j).toNat)
      case atStart => exact ⟨0, Nat.zero_le _, rfl, hF, World.ownsRow_nil _ _ _ _⟩
      case round =>
        obtain ⟨m, hm, rfl, hF2, hown2⟩ := hrel
        clear hF hown
        by_cases hlt2 : m < (cutTo l n).length
        · obtain ⟨ad2, rfl, _, hbl2, hcells2⟩ := row_set hF2.row (List.getElem?_eq_getElem hlt2)
          have hc2 := Lib.hid hcells2
          clear hcells2
          generalize hs : (cutTo l n)[m] = s at *
          have HS := Lib.hid hs
          clear hs
          go_upto_region 10 with ((with_reducible refine at_slot 26 _ _ _ _ _ ?_); refine wpList_load_at rfl _ _ rfl _ rfl s.cells.toList hc2.out _ under_set rfl size_set ?_)
          have hF3 := hF2.alloc (.cells s.cells 35)
          have hown3 := hown2.alloc (.cells s.cells 35)
          have hsb : (wr.alloc (.cells s.cells 35)).heap[wr.heap.size]? = some (.cells s.cells 35 (0, 0)) := heap_alloc_new _ _
          have hgz : w2.heap.size < wr.heap.size := blk_lt hF2.a
          have hW0 : (wr.alloc (.cells s.cells 35)).heap.size = wr.heap.size + 1 := by simp
          generalize wr.alloc (.cells s.cells 35) = W0 at *
          generalize wr.heap.size = gs at *
          have a0 : W0.cell? ⟨w2.heap.size, 0, none⟩ = some (.int .u64 a.w0.toNat) := cell_of_row _ _ 0 _ _ _ hF3.a
          have a1 : W0.cell? ⟨w2.heap.size, 1, none⟩ = some (.int .u64 a.w1.toNat) := cell_of_row _ _ 1 _ _ _ hF3.a
          have a2 : W0.cell? ⟨w2.heap.size, 2, none⟩ = some (.int .u64 a.w2.toNat) := cell_of_row _ _ 2 _ _ _ hF3.a
          have a3 : W0.cell? ⟨w2.heap.size, 3, none⟩ = some (.int .u64 a.w3.toNat) := cell_of_row _ _ 3 _ _ _ hF3.a
          have s0 : W0.cell? ⟨gs, 0, none⟩ = some (.int .u64 s.w0.toNat) := cell_of_row _ _ 0 _ _ _ hsb
          have s1 : W0.cell? ⟨gs, 1, none⟩ = some (.int .u64 s.w1.toNat) := cell_of_row _ _ 1 _ _ _ hsb
          have s2 : W0.cell? ⟨gs, 2, none⟩ = some (.int .u64 s.w2.toNat) := cell_of_row _ _ 2 _ _ _ hsb
          have s3 : W0.cell? ⟨gs, 3, none⟩ = some (.int .u64 s.w3.toNat) := cell_of_row _ _ 3 _ _ _ hsb
          have hbW : Below W0.heap.size W0 W0 := Below.refl _ _
          have HSB := Lib.hid hsb
          have HW0 := Lib.hid hW0
          have hgs : gs < W0.heap.size := by omega
          clear hsb hW0
          go_region_held3 (fun w' => w'.cell? ⟨w2.heap.size, 0, none⟩ = some (.int .u64 a.w0.toNat) ∧ w'.cell? ⟨w2.heap.size, 1, none⟩ = some (.int .u64 a.w1.toNat) ∧ w'.cell? ⟨w2.heap.size, 2, none⟩ = some (.int .u64 a.w2.toNat) ∧ w'.cell? ⟨w2.heap.size, 3, none⟩ = some (.int .u64 a.w3.toNat) ∧
              w'.cell? ⟨gs, 0, none⟩ = some (.int .u64 s.w0.toNat) ∧ w'.cell? ⟨gs, 1, none⟩ = some (.int .u64 s.w1.toNat) ∧ w'.cell? ⟨gs, 2, none⟩ = some (.int .u64 s.w2.toNat) ∧ w'.cell? ⟨gs, 3, none⟩ = some (.int .u64 s.w3.toNat) ∧ Below W0.heap.size W0 w')
            (first | (refine ⟨by assumption, by assumption, by assumption, by assumption, by assumption, by assumption, by assumption, by assumption, by first | assumption | exact hbW.drew⟩) | (go_split_ands; exact held_keep ⟨by assumption, by assumption, by assumption, by assumption, by assumption, by assumption, by assumption, by assumption, by first | assumption | exact hbW.drew⟩ hb1) | (go_split_ands; exact held_keep ⟨by assumption, by assumption, by assumption, by assumption, by assumption, by assumption, by assumption, by assumption, by first | assumption | exact hbW.drew⟩ ((Below.refl _ _).alloc (Nat.le_refl _) _)))
            (first | (go_at_call 21; refine (and_any _ _ _).mono ?_; rintro e w1 ⟨rfl, hb1⟩) | (go_at_call 22; refine (not_any _ _).mono ?_; rintro e w1 ⟨rfl, hb1⟩))
          rename_i wA hbA wB hbB _
          have hbW1 : Below W0.heap.size W0 w1 := below_all (below_all (below_all hbW.drew hbA) hbB) hb1
          clear hbA hbB hb1 a0 a1 a2 a3 s0 s1 s2 s3
          have hF4 := (hF3.below hbW1).alloc (.cells (setsCells [s.and a, s.and a.not]).toArray 35)
          have hown4 := (own_below hown3 hbW1).alloc (.cells (setsCells [s.and a, s.and a.not]).toArray 35)
          have hown4z := (own_below hown3 hbW1).lt
          have hgp : (w1.alloc (.cells (setsCells [s.and a, s.and a.not]).toArray 35)).heap[w1.heap.size]? = some (.cells (setsCells [s.and a, s.and a.not]).toArray 35 (0, 0)) := heap_alloc_new _ _
          have hgpz : w2.heap.size < w1.heap.size := blk_lt (hF3.below hbW1).a
          obtain ⟨w5, rfl⟩ : ∃ w5 : World, w5 = w1 := ⟨_, rfl⟩
          clear hF3 hown3 hown2 hF2
          go_wp2
          go_loopw [7, 36] (fun v k wi => C3 w w2.heap.size (some ad2) (cutTo l n) w2.heap.size a (((cutTo l n).take m).flatMap (cutOne a)) [s.and a, s.and a.not] w5.heap.size v k wi) (fun _ k _ => 2 - (intOf k).toNat)
          case atStart => exact ⟨0, by omega, rfl, fun e => by have := (hown4z _ e).2; omega, hF4, hgp, by rw [List.take_zero, List.filter_nil, List.append_nil]; exact hown4⟩
          case round =>
            obtain ⟨q, hq, rfl, hng, hF5, hgp5, hown5⟩ := hrel
            clear hF4 hown4 hgp
            have hfl := flat_len a ((cutTo l n).take m)
            rw [List.length_take] at hfl
            by_cases hlt3 : q < 2
            · obtain ⟨t, ht⟩ : ∃ t, [s.and a, s.and a.not][q]? = some t := ⟨_, List.getElem?_eq_getElem (by simpa using hlt3)⟩
              have hc3 := Lib.hid (pair_cells hgp5 ht)
              have hstep := Lib.hid (filter_step ht)
              have hfl2 := filter_len (List.take q [s.and a, s.and a.not])
              rw [List.length_take] at hfl2
              have hfl3 : (((cutTo l n).take m).flatMap (cutOne a) ++ ([s.and a, s.and a.not].take q).filter fun t => decide (0 < t.count)).length ≤ 600 := by rw [List.length_append]; omega
              have hqz := blk_lt hgp5
              have hF6 := hF5.alloc (.cells t.cells 35)
              have hown6 := hown5.alloc (.cells t.cells 35)
              have HP := Lib.hid (blk_alloc hgp5 (.cells t.cells 35))
              have hng := Lib.hid hng
              clear ht hgp5 hF5 hown5
              by_cases hpos : 0 < t.count
              · have hd : decide ((0 : Int) < (t.count : Int)) = true := by simp; omega
                have hpos' := Lib.hid hpos
                clear hpos
                go_wp2_with (first | ((with_reducible refine at_slot 39 _ _ _ _ _ ?_); refine wpList_load_at rfl _ _ rfl _ rfl t.cells.toList hc3.out _ under_set rfl size_set ?_) | (go_at_call 16; refine (count_any t _).mono ?_; rintro e w6 ⟨rfl, hb6⟩; have hbk6 := blk_below (heap_alloc_new wr (.cells t.cells 35)) hb6; have k0 := cell_of_row _ _ 0 _ _ _ hbk6; have k1 := cell_of_row _ _ 1 _ _ _ hbk6; have k2 := cell_of_row _ _ 2 _ _ _ hbk6; have k3 := cell_of_row _ _ 3 _ _ _ hbk6; clear hbk6) | (at_builtin; go_loud (refine wpList_push rfl _ _ 22 rfl (w2.heap.size + 1) 35 i0 (.agg #[.int .u64 0, .int .u64 0, .int .u64 0, .int .u64 0]) 4 32 Tryd.underlying22 hi hz0 hz1 hz2 rfl (by decide) _ _ _ rfl (own_below hown6 hb6) 1 _ _ rfl rfl rfl (by omega) (by decide) (by have := hb6.size; simp at this; omega) ?_); intro v7 w7 hown7 hg7 hat7))
                go_roundw
                case rel =>
                  have hF7 := hF6.below hb6
                  have hrow7 : ∀ k, u7.ownBlock = some k → w2.heap.size < k := fun k hk => by have := own_row hown6 k hk; omega
                  have hgz6 : w5.heap.size < w6.heap.size := Nat.lt_of_lt_of_le hqz (Nat.le_trans (by simp) hb6.size)
                  refine ⟨q + 1, by omega, by go_num, ?_, hF7.grown hg7 hrow7, ?_, ?_⟩
                  · rcases hat7 with e | e
                    · rw [e]; exact hng.out
                    · rw [e]; simp; omega
                  · exact blk_grown (blk_below HP.out hb6) hg7 (fun e => hng.out e.symm)
                  · rw [hstep.out, if_pos hpos'.out, ← List.append_assoc, List.length_append, setsCells_append]
                    simpa [setsCells] using hown7
                case measure => simp [intOf]; omega
              · have hd : decide ((0 : Int) < (t.count : Int)) = false := by simp; omega
                have hpos' := Lib.hid hpos
                clear hpos
                go_wp2_with (first | ((with_reducible refine at_slot 39 _ _ _ _ _ ?_); refine wpList_load_at rfl _ _ rfl _ rfl t.cells.toList hc3.out _ under_set rfl size_set ?_) | (go_at_call 16; refine (count_any t _).mono ?_; rintro e w6 ⟨rfl, hb6⟩))
                go_roundw
                case rel =>
                  refine ⟨q + 1, by omega, by go_num, hng.out, hF6.below hb6, blk_below HP.out hb6, ?_⟩
                  rw [hstep.out, if_neg hpos'.out, List.append_nil]
                  exact own_below hown6 hb6
                case measure => simp [intOf]; omega
            · obtain rfl : q = 2 := by omega
              go_wp2
              go_roundw
              case rel =>
                refine ⟨m + 1, by omega, by go_num, hF5, ?_⟩
                have e : ((cutTo l n).take (m + 1)).flatMap (cutOne a) = ((cutTo l n).take m).flatMap (cutOne a) ++ cutOne a s := by
                  rw [List.take_succ_eq_append_getElem hlt2, List.flatMap_append, HS.out]; simp
                rw [e]
                exact hown5
              case measure => simp [intOf]; omega
        · obtain rfl : m = (cutTo l n).length := by omega
          go_wp2
          go_roundw
          case rel =>
            refine ⟨n + 1, hlt, by go_num, ?_, hF2.b⟩
            rw [cutTo_succ l n hlt, HA.out]
            rw [List.take_length] at hown2
            exact own_base hown2 (by have := hF2.z; omega)
          case measure => simp [intOf]; omega
    · obtain rfl : n = l.length := by omega
      obtain ⟨A, c0, hA⟩ := own_slice hown
      subst hA
      have hP := parted l
      have e : cutTo l l.length = cutSets l := by unfold cutTo; rw [List.take_length]
      rw [e] at hown
      have hof : ∀ b, b < 256 → ofFn (cutSets l) b < (cutSets l).length := fun b hb => by
        obtain ⟨s, hs, _⟩ := ofFn_spec hP b hb
        exact (List.getElem?_eq_some_iff.1 hs).1
      have E := Lib.hid e
      clear e
      go_wp2_with (go_at_call 24; rw [E.out]; refine (number_any (cutSets l) (parted_len hP) hof A c0 _ ((RowAt.own hown).mono (Nat.zero_le _) (Nat.le_refl _))).mono ?_; rintro e w6 ⟨p, rfl, hp6, hb6⟩)
      go_returns
      exact ⟨p, rfl, hp6.low hB.size, below_seq hB hb6 hB.size⟩
end Go.Proofs.YtccbfcnnbdgcgaaDoor
