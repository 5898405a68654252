/- The law about what a partition is cut by, walked. -/
import Derived.Test.YtccbfcnnbdgcgaaDoorCutLaw
import Derived.BigQuiet
import Derived.Outline
namespace Go.Proofs.YtccbfcnnbdgcgaaDoor
open Go.RowKit
attribute [local go_sem] S4.val equalIn_set

theorem S4.cells_zero : S4.zero.cells = #[.int .u64 0, .int .u64 0, .int .u64 0, .int .u64 0] := rfl
theorem set4 {w : World} {g : Nat} {cs : Array Value} {t : TypeId} (h : w.heap[g]? = some (.cells cs t (0, 0))) (hs : cs.size = 4) (a b c d : Value) :
    ((((w.setCell ⟨g, 0, none⟩ a).setCell ⟨g, 1, none⟩ b).setCell ⟨g, 2, none⟩ c).setCell ⟨g, 3, none⟩ d).heap[g]? = some (.cells #[a, b, c, d] t (0, 0)) := by
  have h1 := heap_setCell_same _ _ 0 _ _ a h
  have h2 := heap_setCell_same _ _ 1 _ _ b h1
  have h3 := heap_setCell_same _ _ 2 _ _ c h2
  have h4 := heap_setCell_same _ _ 3 _ _ d h3
  rw [h4]
  obtain ⟨x0, x1, x2, x3, rfl⟩ : ∃ x0 x1 x2 x3, cs = #[x0, x1, x2, x3] := by
    obtain ⟨l⟩ := cs
    match l, hs with
    | [x0, x1, x2, x3], _ => exact ⟨_, _, _, _, rfl⟩
  rfl
/-- What the first loops keep. -/
structure Cw (w3 : World) (ga gs L : Nat) (a s : S4) (A : Option Addr) (cs : List Nat) (wr : World) : Prop where
  ba : wr.heap[ga]? = some (.cells a.cells 35 (0, 0))
  bs : wr.heap[gs]? = some (.cells s.cells 35 (0, 0))
  row : RowAt wr L wr.heap.size A (intCells cs)
  b : Below w3.heap.size w3 wr
theorem Cw.below {w3 : World} {ga gs L : Nat} {a s : S4} {A : Option Addr} {cs : List Nat} {wr w1 : World} (h : Cw w3 ga gs L a s A cs wr) (hb : Below wr.heap.size wr w1) : Cw w3 ga gs L a s A cs w1 :=
  ⟨blk_below h.ba hb, blk_below h.bs hb, (h.row.keep hb).mono (Nat.le_refl _) hb.size, below_seq h.b hb h.b.size⟩
theorem Cw.drew {w3 : World} {ga gs L : Nat} {a s : S4} {A : Option Addr} {cs : List Nat} {wr : World} (h : Cw w3 ga gs L a s A cs wr) : Cw w3 ga gs L a s A cs wr.drew := ⟨h.ba, h.bs, h.row, h.b.drew⟩
theorem Cw.store {w3 : World} {ga gs L : Nat} {a s : S4} {A : Option Addr} {cs : List Nat} {wr : World} (h : Cw w3 ga gs L a s A cs wr) (hne : ga ≠ gs) (hL : gs < L) (hg : w3.heap.size ≤ gs) (t : S4) :
    Cw w3 ga gs L a t A cs ((((wr.setCell ⟨gs, 0, none⟩ (.int .u64 t.w0.toNat)).setCell ⟨gs, 1, none⟩ (.int .u64 t.w1.toNat)).setCell ⟨gs, 2, none⟩ (.int .u64 t.w2.toNat)).setCell ⟨gs, 3, none⟩ (.int .u64 t.w3.toNat)) := by
  refine ⟨?_, set4 h.bs rfl _ _ _ _, ?_, (((h.b.setCell hg _).setCell hg _).setCell hg _).setCell hg _⟩
  · simp only [Below.heap_setCell _ (⟨gs, _, none⟩ : Addr) _ ga hne]; exact h.ba
  · have f := fun (w' : World) (x : Value) (j : Nat) (k : RowAt w' L wr.heap.size A (intCells cs)) => k.far (p := ⟨gs, j, none⟩) (.inl hL) x
    have := f _ (.int .u64 t.w3.toNat) 3 (f _ (.int .u64 t.w2.toNat) 2 (f _ (.int .u64 t.w1.toNat) 1 (f _ (.int .u64 t.w0.toNat) 0 h.row)))
    simpa using this
def CwA (l : List S4) (w3 : World) (i : Value) (wr : World) : Prop := ∃ n : Nat, n ≤ l.length ∧ i = .int .i64 (n : Int) ∧ Below w3.heap.size w3 wr
def CwB (ss : List S4) (cs : List Nat) (w3 : World) (ga gs L : Nat) (a : S4) (A : Option Addr) (j : Value) (wr : World) : Prop := ∃ m : Nat, m ≤ cs.length ∧ j = .int .i64 (m : Int) ∧ Cw w3 ga gs L a (sumC ss cs m) A cs wr
def CwC (N : Nat) (w3 : World) (i : Value) (wr : World) : Prop := ∃ n : Nat, n ≤ N ∧ i = .int .i64 (n : Int) ∧ Below w3.heap.size w3 wr
def CwE (l : List S4) (x y : Nat) (w3 : World) (t i : Value) (wr : World) : Prop := ∃ n : Nat, n ≤ l.length ∧ i = .int .i64 (n : Int) ∧ t = .bool (!alike (l.take n) x y) ∧ Below w3.heap.size w3 wr
set_option maxRecDepth 100000 in
set_option maxHeartbeats 1000000 in
theorem cutw_any (l : List S4) (A : Option Addr) (c : Nat) (w : World) (hrow : RowAt w 0 w.heap.size A (setsCells l)) (hT : TabAt w) :
    Calls Tryd.prog 4 #[.slice A l.length c] w fun e w' => e = .returned (.bool true) ∧ Below w.heap.size w w' := by
  obtain ⟨i0, hi, hz0, hz1, hz2⟩ := info_parts info_set
  go_enter Tryd.func4, Tryd.ntmps4
  by_cases hlen : 30 < l.length
  · have d1 : decide ((30 : Int) < (l.length : Int)) = true := by simp; omega
    go_wp2_with fail
    refine (awake_any w hT).mono ?_
    rintro e w1 ⟨rfl, hB⟩
    go_wp2_with (go_at_call 8; refine (awake_any _ (hT.after hB)).mono ?_; rintro e w2 ⟨rfl, hb2⟩)
    go_returns
    exact ⟨rfl, below_seq hB hb2 hB.size⟩
  · have d1 : decide ((30 : Int) < (l.length : Int)) = false := by simp; omega
    go_wp2_with fail
    refine (awake_any w hT).mono ?_
    rintro e w1 ⟨rfl, hB⟩
    have hr1 : RowAt (w1.alloc (.cells #[] 35)) 0 w.heap.size A (setsCells l) := (hrow.keep hB).keep ((Below.refl _ _).alloc hB.size _)
    go_wp2_with (at_builtin; go_loud (refine wpList_append_row rfl _ _ 22 rfl w1.heap.size 35 i0 (.agg #[.int .u64 0, .int .u64 0, .int .u64 0, .int .u64 0]) 4 32 Tryd.underlying22 hi hz0 hz1 hz2 rfl (by decide) _ _ _ rfl (own_empty _ _ _) 0 _ A l.length c (setsCells l) rfl (setsCells_length l) hr1 (List.all_eq_true.1 (setsCells_one l)) (by simp only [maxLen]; omega) (by omega) (by simp) ?_); intro v2 w2 hown2 hg2 _; obtain ⟨hB2, A2, c2, rfl, row2⟩ := copied hB hg2 hB.size hown2)
    refine (cut_any l (by omega) A2 c2 w2 row2).mono ?_
    rintro e w3 ⟨p, rfl, hP, hb3⟩
    have hB3 := below_seq hB2 hb3 hB2.size
    clear hb3 hB2 row2 hown2 hg2 hr1 hB
    have hr3 : RowAt w3 0 w3.heap.size A (setsCells l) := (hrow.keep hB3).mono (Nat.le_refl _) hB3.size
    have hT3 := hT.after hB3
    have HP := Lib.hid hP
    have HT := Lib.hid hT3
    clear hP hrow hT hT3
    go_wp2
    go_loopw [32] (fun i wr => CwA l w3 i wr) (fun i _ => l.length - (intOf i).toNat)
    case atStart => exact ⟨0, Nat.zero_le _, rfl, Below.refl _ _⟩
    case round =>
      obtain ⟨n, hn, rfl, hB⟩ := hrel
      by_cases hlt : n < l.length
      · have d3 : decide ((n : Int) < (l.length : Int)) = true := by simp; omega
        obtain ⟨ad, rfl, _, hbl, hcells⟩ := row_set (hr3.keep hB) (List.getElem?_eq_getElem hlt)
        have hmem := Lib.hid (sumC_all l l[n] (List.getElem_mem hlt))
        generalize l[n] = a at *
        have e0 := hcells 0 _ rfl
        have e1 := hcells 1 _ rfl
        have e2 := hcells 2 _ rfl
        have e3 := hcells 3 _ rfl
        rw [add_one_addr _ _ (by decide)] at e1 e2 e3
        rw [show ((ad.add (n * 4)).add 0) = ad.add (n * 4) from rfl] at e0
        clear hcells
        have hss := setsOf_le l
        have CL := Lib.hid (fun wx (h : Below w3.heap.size w3 wx) => classes_any (HP.out.below h) hss a)
        have hB1 : Below w3.heap.size w3 ((wr.alloc (.cells a.cells 35)).alloc (.cells S4.zero.cells 35)) := (hB.alloc hB.size _).alloc (Nat.le_trans hB.size (by simp)) _
        go_wp2_with (go_at_call 18; refine (CL.out _ hB1).mono ?_; rintro e w5 ⟨A5, c5, rfl, hrow5, hb5⟩)
        have hcsl := classesIn_le l a
        have hlt' := Lib.hid (fun n h => classesIn_lt l a n h)
        have hCw : Cw w3 wr.heap.size (wr.heap.size + 1) (wr.heap.size + 2) a (sumC (setsOf l) (classesIn (setsOf l) a) 0) A5 (classesIn (setsOf l) a) w5 :=
          ⟨blk_below (blk_alloc (heap_alloc_new _ _) _) hb5, blk_below (heap_alloc2_new _ _ _) hb5, hrow5.mono (by simp) (Nat.le_refl _), below_seq hB1 hb5 hB1.size⟩
        have hgs := hB.size
        clear e0 e1 e2 e3 hb5 hrow5 hB1 CL hB
        generalize hCS : classesIn (setsOf l) a = cs at *
        generalize hga : wr.heap.size = ga at *
        obtain ⟨w6, hw6⟩ : ∃ w6 : World, w6 = wr := ⟨_, rfl⟩
        clear hw6
        go_loopw [40] (fun j wi => CwB (setsOf l) cs w3 ga (ga + 1) (ga + 2) a A5 j wi) (fun j _ => cs.length - (intOf j).toNat)
        case atStart => exact ⟨0, Nat.zero_le _, rfl, hCw⟩
        case round =>
          obtain ⟨m, hm, rfl, hC⟩ := hrel
          by_cases hml : m < cs.length
          · have d4 : decide ((m : Int) < (cs.length : Int)) = true := by simp; omega
            have hsu := Lib.hid (sumC_succ (setsOf l) cs m hml)
            have hkl := Nat.lt_of_lt_of_le (hlt'.out m hml) hss
            obtain ⟨ad5, rfl, _, _, e5⟩ := hC.row m (.int .i64 (cs[m] : Int)) (by simp [intCells, hml])
            generalize cs[m] = k at *
            have COF := Lib.hid (fun wx (h : Below w3.heap.size w3 wx) => of_class_any (HP.out.below h) (k : Int))
            generalize ofClass (setsOf l) (k : Int) = t at *
            generalize sumC (setsOf l) cs m = s at *
            have g0 := cell_of_row _ _ 0 _ _ _ hC.bs
            have g1 := cell_of_row _ _ 1 _ _ _ hC.bs
            have g2 := cell_of_row _ _ 2 _ _ _ hC.bs
            have g3 := cell_of_row _ _ 3 _ _ _ hC.bs
            have HC := Lib.hid hC
            clear hC hlt' HP HT
            go_upto_region 11 with (fail)
            go_region_with (first
              | (go_at_call 14; refine (COF.out _ HC.out.b.drew).mono ?_; rintro e w7 ⟨rfl, hb7⟩
                 have hC7 := HC.out.drew.below hb7
                 have j0 := cell_of_row _ _ 0 _ _ _ hC7.bs
                 have j1 := cell_of_row _ _ 1 _ _ _ hC7.bs
                 have j2 := cell_of_row _ _ 2 _ _ _ hC7.bs
                 have j3 := cell_of_row _ _ 3 _ _ _ hC7.bs
                 have HC7 := Lib.hid hC7
                 clear hC7)
              | (go_at_call 19; refine (or_any s t _).mono ?_; rintro e w8 ⟨rfl, hb8⟩
                 have hC8 := HC7.out.below hb8
                 have i0 := cell_of_row _ _ 0 _ _ _ hC8.bs
                 have i1 := cell_of_row _ _ 1 _ _ _ hC8.bs
                 have i2 := cell_of_row _ _ 2 _ _ _ hC8.bs
                 have i3 := cell_of_row _ _ 3 _ _ _ hC8.bs
                 have f0 := frozen_of_row _ _ 0 _ _ hC8.bs
                 have f1 := frozen_of_row _ _ 1 _ _ hC8.bs
                 have f2 := frozen_of_row _ _ 2 _ _ hC8.bs
                 have f3 := frozen_of_row _ _ 3 _ _ hC8.bs
                 have HC8 := Lib.hid hC8
                 clear hC8))
            all_goals
              have hC9 := HC8.out.store (by omega) (by omega) (by omega) (s.or t)
              go_wp2
              exact ⟨⟨m + 1, by omega, by go_num, by rw [hsu.out]; exact hC9⟩, by simp [intOf]; omega⟩
          · obtain rfl : m = cs.length := by omega
            have d4 : decide ((cs.length : Int) < (cs.length : Int)) = false := by simp
            rw [hmem.out] at hC
            have g0 := cell_of_row _ _ 0 _ _ _ hC.bs
            have g1 := cell_of_row _ _ 1 _ _ _ hC.bs
            have g2 := cell_of_row _ _ 2 _ _ _ hC.bs
            have g3 := cell_of_row _ _ 3 _ _ _ hC.bs
            have k0 := cell_of_row _ _ 0 _ _ _ hC.ba
            have k1 := cell_of_row _ _ 1 _ _ _ hC.ba
            have k2 := cell_of_row _ _ 2 _ _ _ hC.ba
            have k3 := cell_of_row _ _ 3 _ _ _ hC.ba
            have hCb := Lib.hid hC.b
            have d5 : decide (a = a) = true := by simp
            clear hC hlt' HP HT hmem
            go_wp2
            go_roundw
            case rel => exact ⟨n + 1, by omega, by go_num, hCb.out⟩
            case measure => simp [intOf]; omega
      · obtain rfl : n = l.length := by omega
        have d3 : decide ((l.length : Int) < (l.length : Int)) = false := by simp
        have LP := Lib.hid (len_any (HP.out.below hB))
        go_wp2_with (go_at_call 17; refine LP.out.mono ?_; rintro e w4 ⟨rfl, rfl⟩)
        clear LP
        have hN := setsOf_le l
        have hTO := Lib.hid (told_of l)
        have SM := Lib.hid (fun i wx (h : Below w3.heap.size w3 wx) => sample_any (HP.out.below h) (HT.out.after h) i)
        generalize hss : setsOf l = ss at *
        generalize hNN : ss.length = N at *
        clear HP HT hNN hss
        obtain ⟨w5, hw5⟩ : ∃ w5 : World, w5 = wr := ⟨_, rfl⟩
        rw [← hw5] at hB ⊢
        clear hw5
        go_loopw [56] (fun i wi => CwC N w3 i wi) (fun i _ => N - (intOf i).toNat)
        case atStart => exact ⟨0, Nat.zero_le _, rfl, hB⟩
        case round =>
          obtain ⟨i, hiN, rfl, hBi⟩ := hrel
          by_cases hil : i < N
          · have d6 : decide ((i : Int) < (N : Int)) = true := by simp; omega
            go_wp2
            obtain ⟨w6, hw6⟩ : ∃ w6 : World, w6 = wr := ⟨_, rfl⟩
            rw [← hw6] at hBi ⊢
            clear hw6
            go_loopw [60] (fun j wj => CwC i w3 j wj) (fun j _ => i - (intOf j).toNat)
            case atStart => exact ⟨0, Nat.zero_le _, rfl, hBi⟩
            case round =>
              obtain ⟨j, hji, rfl, hBj⟩ := hrel
              by_cases hjl : j < i
              · have d7 : decide ((j : Int) < (i : Int)) = true := by simp; omega
                obtain ⟨x, y, hx, hy, hsx, hsy, hal⟩ := hTO.out i j hil hjl
                have S1 := Lib.hid (fun wx (h : Below w3.heap.size w3 wx) => SM.out (i : Int) wx h)
                have S2 := Lib.hid (fun wx (h : Below w3.heap.size w3 wx) => SM.out (j : Int) wx h)
                rw [hsx] at S1
                rw [hsy] at S2
                have HAL := Lib.hid hal
                clear hsx hsy hal
                go_wp2_with fail
                refine (S1.out _ hBj).mono ?_
                rintro e w7 ⟨rfl, hb7⟩
                have hB7 := below_seq hBj hb7 hBj.size
                go_wp2_with fail
                refine (S2.out _ hB7).mono ?_
                rintro e w8 ⟨rfl, hb8⟩
                have hB8 := below_seq hB7 hb8 hB7.size
                clear hb7 hb8 hB7 S1 S2
                go_wp2
                obtain ⟨w9, hw9⟩ : ∃ w9 : World, w9 = w8 := ⟨_, rfl⟩
                rw [← hw9] at hB8 ⊢
                clear hw9
                go_loopw [15, 77] (fun t k we => CwE l x y w3 t k we) (fun _ k _ => l.length - (intOf k).toNat)
                case atStart => exact ⟨0, Nat.zero_le _, rfl, rfl, hB8⟩
                case round =>
                  obtain ⟨m, hm, rfl, rfl, hBe⟩ := hrel
                  by_cases hml : m < l.length
                  · have d8 : decide ((m : Int) < (l.length : Int)) = true := by simp; omega
                    obtain ⟨ad, rfl, _, hbl, hcells⟩ := row_set (hr3.keep hBe) (List.getElem?_eq_getElem hml)
                    have hsu := Lib.hid (alike_succ l m x y hml)
                    generalize l[m] = a at *
                    have e0 := hcells 0 _ rfl
                    have e1 := hcells 1 _ rfl
                    have e2 := hcells 2 _ rfl
                    have e3 := hcells 3 _ rfl
                    rw [add_one_addr _ _ (by decide)] at e1 e2 e3
                    rw [show ((ad.add (m * 4)).add 0) = ad.add (m * 4) from rfl] at e0
                    clear hcells
                    have hbx := heap_alloc_new wr (.cells a.cells 35)
                    have hB10 : Below w3.heap.size w3 (wr.alloc (.cells a.cells 35)) := hBe.alloc hBe.size _
                    cases hal2 : alike (l.take m) x y with
                    | false =>
                      have hs2 : Hid (alike (l.take (m + 1)) x y = false) := by rw [hsu.out, hal2]; rfl
                      clear hal2 hsu hbx
                      go_upto_region 28 with (fail)
                      refine wp_region_noPanic ?_
                      refine wp_region_held_drew (S := fun _ => True) (by kernel_rfl) trivial (fun hH => ?_)
                      refine wpAnyH_take (i := 0) (oi := ⟨some 81, _, _, _, _, _⟩) (v := .bool true) rfl (by kernel_rfl) (by kernel_rfl) (by kernel_rfl) (fun _ _ _ h => h) (Or.inl ⟨by rfl, fun wq hq => ?_⟩) hH ?_
                      · go_simp
                      simp only [Act.put, List.setIfInBounds_toArray, List.set_cons_zero, List.set_cons_succ]
                      refine wpAnyH_take (i := 1) (oi := ⟨some 82, _, _, _, _, _⟩) (v := .bool true) rfl (by kernel_rfl) (by kernel_rfl) (by kernel_rfl) (fun _ _ _ h => h) (Or.inl ⟨by rfl, fun wq hq => ?_⟩) hH ?_
                      · go_simp
                      simp only [Act.put, List.setIfInBounds_toArray, List.set_cons_zero, List.set_cons_succ]
                      refine wpAnyH_take (i := 2) (oi := ⟨some 83, _, _, _, _, _⟩) (v := undef) rfl (by kernel_rfl) (by kernel_rfl) (by kernel_rfl) (fun _ _ _ h => h) (Or.inr ⟨by rfl, rfl⟩) hH ?_
                      simp only [Act.put, List.setIfInBounds_toArray, List.set_cons_zero, List.set_cons_succ]
                      refine wpAnyH_take (i := 3) (oi := ⟨some 84, _, _, _, _, _⟩) (v := undef) rfl (by kernel_rfl) (by kernel_rfl) (by kernel_rfl) (fun _ _ _ h => h) (Or.inr ⟨by rfl, rfl⟩) hH ?_
                      simp only [Act.put, List.setIfInBounds_toArray, List.set_cons_zero, List.set_cons_succ]
                      refine wpAnyH_take (i := 4) (oi := ⟨some 85, _, _, _, _, _⟩) (v := undef) rfl (by kernel_rfl) (by kernel_rfl) (by kernel_rfl) (fun _ _ _ h => h) (Or.inr ⟨by rfl, rfl⟩) hH ?_
                      simp only [Act.put, List.setIfInBounds_toArray, List.set_cons_zero, List.set_cons_succ]
                      refine wpAnyH_take (i := 5) (oi := ⟨some 86, _, _, _, _, _⟩) (v := undef) rfl (by kernel_rfl) (by kernel_rfl) (by kernel_rfl) (fun _ _ _ h => h) (Or.inr ⟨by rfl, rfl⟩) hH ?_
                      simp only [Act.put, List.setIfInBounds_toArray, List.set_cons_zero, List.set_cons_succ]
                      refine wpAnyH_take (i := 6) (oi := ⟨some 87, _, _, _, _, _⟩) (v := undef) rfl (by kernel_rfl) (by kernel_rfl) (by kernel_rfl) (fun _ _ _ h => h) (Or.inr ⟨by rfl, rfl⟩) hH ?_
                      simp only [Act.put, List.setIfInBounds_toArray, List.set_cons_zero, List.set_cons_succ]
                      refine wpAnyH_take (i := 7) (oi := ⟨some 88, _, _, _, _, _⟩) (v := undef) rfl (by kernel_rfl) (by kernel_rfl) (by kernel_rfl) (fun _ _ _ h => h) (Or.inr ⟨by rfl, rfl⟩) hH ?_
                      simp only [Act.put, List.setIfInBounds_toArray, List.set_cons_zero, List.set_cons_succ]
                      refine wpAnyH_take (i := 8) (oi := ⟨some 89, _, _, _, _, _⟩) (v := undef) rfl (by kernel_rfl) (by kernel_rfl) (by kernel_rfl) (fun _ _ _ h => h) (Or.inr ⟨by rfl, rfl⟩) hH ?_
                      simp only [Act.put, List.setIfInBounds_toArray, List.set_cons_zero, List.set_cons_succ]
                      refine wpAnyH_take (i := 9) (oi := ⟨some 90, _, _, _, _, _⟩) (v := undef) rfl (by kernel_rfl) (by kernel_rfl) (by kernel_rfl) (fun _ _ _ h => h) (Or.inr ⟨by rfl, rfl⟩) hH ?_
                      simp only [Act.put, List.setIfInBounds_toArray, List.set_cons_zero, List.set_cons_succ]
                      refine wpAnyH_take (i := 10) (oi := ⟨some 91, _, _, _, _, _⟩) (v := undef) rfl (by kernel_rfl) (by kernel_rfl) (by kernel_rfl) (fun _ _ _ h => h) (Or.inr ⟨by rfl, rfl⟩) hH ?_
                      simp only [Act.put, List.setIfInBounds_toArray, List.set_cons_zero, List.set_cons_succ]
                      refine wpAnyH_take (i := 11) (oi := ⟨some 92, _, _, _, _, _⟩) (v := .bool true) rfl (by kernel_rfl) (by kernel_rfl) (by kernel_rfl) (fun _ _ _ h => h) (Or.inl ⟨by rfl, fun wq hq => ?_⟩) hH ?_
                      · go_simp
                      simp only [Act.put, List.setIfInBounds_toArray, List.set_cons_zero, List.set_cons_succ]
                      refine wpAnyH_take (i := 12) (oi := ⟨some 15, _, _, _, _, _⟩) (v := .bool true) rfl (by kernel_rfl) (by kernel_rfl) (by kernel_rfl) (fun _ _ _ h => h) (Or.inl ⟨by rfl, fun wq hq => ?_⟩) hH ?_
                      · go_simp
                      simp only [Act.put, List.setIfInBounds_toArray, List.set_cons_zero, List.set_cons_succ]
                      refine wpAnyH_done (by kernel_rfl) ?_ _
                      refine NoPanic.normal ?_
                      clear hH
                      go_wp2
                      go_roundw
                      case rel => exact ⟨m + 1, by omega, by go_num, by rw [hs2.out]; rfl, hB10.drew⟩
                      case measure => simp [intOf]; omega
                    | true =>
                      have hs2 := Lib.hid (show alike (l.take (m + 1)) x y = (a.has x == a.has y) by rw [hsu.out, hal2, Bool.true_and])
                      clear hal2 hsu
                      go_upto_region 28 with (fail)
                      generalize wr.heap.size = gb at *
                      generalize wr.alloc (.cells a.cells 35) = w10 at *
                      have k0 := cell_of_row _ _ 0 _ _ _ hbx
                      have k1 := cell_of_row _ _ 1 _ _ _ hbx
                      have k2 := cell_of_row _ _ 2 _ _ _ hbx
                      have k3 := cell_of_row _ _ 3 _ _ _ hbx
                      have hbW : Below w10.heap.size w10 w10 := Below.refl _ _
                      clear hbx e0 e1 e2 e3
                      have hwx : IntKind.i64.wrap (x : Int) = (x : Int) := IntWalk.i64_in _ (by omega)
                      have hwy : IntKind.i64.wrap (y : Int) = (y : Int) := IntWalk.i64_in _ (by omega)
                      go_region_held3 (fun w' => w'.cell? ⟨gb, 0, none⟩ = some (.int .u64 a.w0.toNat) ∧ w'.cell? ⟨gb, 1, none⟩ = some (.int .u64 a.w1.toNat) ∧ w'.cell? ⟨gb, 2, none⟩ = some (.int .u64 a.w2.toNat) ∧ w'.cell? ⟨gb, 3, none⟩ = some (.int .u64 a.w3.toNat) ∧ Below w10.heap.size w10 w')
                        (first | (refine ⟨by assumption, by assumption, by assumption, by assumption, by first | assumption | exact hbW.drew⟩) | (go_split_ands; exact held4_keep ⟨by assumption, by assumption, by assumption, by assumption, by first | assumption | exact hbW.drew⟩ hb1))
                        (first | (go_at_call 20; refine (refHas_open _ _ (by omega) (by omega) _).mono ?_; rintro e w1 ⟨rfl, hb1⟩))
                      rename_i wA hbA _
                      have hBe2 := below_seq (below_seq hB10.drew hbA hB10.size) hb1 (Nat.le_trans hB10.size hbA.size)
                      clear hbA hb1 k0 k1 k2 k3 hwx hwy
                      have X : CwE l x y w3 (.bool (!(a.has x == a.has y))) (.int .i64 ((m : Int) + 1)) w1 := ⟨m + 1, by omega, by go_num, by rw [hs2.out], hBe2⟩
                      generalize (a.has x == a.has y) = bb at *
                      go_wp2
                      go_roundw
                      case rel => exact X
                      case measure => simp [intOf]; omega
                  · obtain rfl : m = l.length := by omega
                    have d8 : decide ((l.length : Int) < (l.length : Int)) = false := by simp
                    rw [List.take_length, HAL.out]
                    go_wp2
                    go_roundw
                    case rel => exact ⟨j + 1, by omega, by go_num, hBe⟩
                    case measure => simp [intOf]; omega
              · obtain rfl : j = i := by omega
                have d7 : decide ((j : Int) < (j : Int)) = false := by simp
                go_wp2
                go_roundw
                case rel => exact ⟨j + 1, by omega, by go_num, hBj⟩
                case measure => simp [intOf]; omega
          · obtain rfl : i = N := by omega
            have d6 : decide ((i : Int) < (i : Int)) = false := by simp
            go_wp2
            go_returns
            exact ⟨rfl, below_seq hB3 hBi hB3.size⟩
end Go.Proofs.YtccbfcnnbdgcgaaDoor
