/- The law about what a partition tells, walked. -/
import Derived.Test.YtccbfcnnbdgcgaaDoorCopy
namespace Go.Proofs.YtccbfcnnbdgcgaaDoor
open Go.RowKit
attribute [local go_sem] S4.val

/-- What the law's loops keep: the partition, the two tables, the caller's memory. -/
structure Tl (l : List S4) (w : World) (B p g4 g6 : Nat) (rs bs : Array Value) (wr : World) : Prop where
  hP : PartsAt wr B p (remapOf l) (setsOf l)
  b4 : wr.heap[g4]? = some (.cells rs 26 (0, 0))
  b6 : wr.heap[g6]? = some (.cells bs 29 (0, 0))
  b : Below w.heap.size w wr
theorem Tl.below {l : List S4} {w : World} {B p g4 g6 : Nat} {rs bs : Array Value} {wr w1 : World} (h : Tl l w B p g4 g6 rs bs wr) (hb : Below wr.heap.size wr w1) : Tl l w B p g4 g6 rs bs w1 :=
  ⟨h.hP.below hb, blk_below h.b4 hb, blk_below h.b6 hb, below_seq h.b hb h.b.size⟩
def Tl1 (l : List S4) (w : World) (B p g4 g6 : Nat) (rs bs : Array Value) (i : Value) (wr : World) : Prop := ∃ n : Nat, n ≤ 256 ∧ i = .int .i64 (n : Int) ∧ Tl l w B p g4 g6 rs bs wr
/-- How many bytes the first classes hold together. -/
def sumTo (ss : List S4) (n : Nat) : Nat := ((ss.take n).map S4.count).sum
def Tl2 (l : List S4) (w : World) (B p g4 g6 : Nat) (rs bs : Array Value) (t i : Value) (wr : World) : Prop := ∃ n : Nat, n ≤ (setsOf l).length ∧ i = .int .i64 (n : Int) ∧ t = .int .i64 (sumTo (setsOf l) n : Int) ∧ Tl l w B p g4 g6 rs bs wr
theorem ofClass_at {ss : List S4} {k : Nat} {s : S4} (h : ss[k]? = some s) : ofClass ss (k : Int) = s := by
  unfold ofClass
  rw [if_neg (by omega), Int.toNat_natCast, List.getD_eq_getElem?_getD, h]; rfl
theorem sumTo_succ (ss : List S4) (n : Nat) (s : S4) (h : ss[n]? = some s) : sumTo ss (n + 1) = sumTo ss n + s.count := by
  unfold sumTo
  obtain ⟨h1, h2⟩ := List.getElem?_eq_some_iff.1 h
  rw [List.take_succ_eq_append_getElem h1, List.map_append, List.sum_append, h2]; simp
theorem sumTo_eq (l : List S4) (n : Nat) (hn : n ≤ (setsOf l).length) : sumTo (setsOf l) n = (List.range 256).countP fun b => decide (remapOf l b < n) := by
  induction n with
  | zero => simp [sumTo]
  | succ n ih =>
    have hat := List.getElem?_eq_getElem (show n < (setsOf l).length by omega)
    rw [sumTo_succ _ _ _ hat, ih (by omega), S4.count_eq]
    rw [show (List.range 256).countP (setsOf l)[n].has = (List.range 256).countP fun b => decide (remapOf l b = n) from countP_range_congr _ _ _ fun b hb => by
      rw [Bool.eq_iff_iff, decide_eq_true_iff]; exact has_setsOf l n _ hat b hb]
    rw [← countP_or _ _ _ fun b _ => by simp; omega]
    refine countP_range_congr _ _ _ fun b _ => ?_
    rw [Bool.eq_iff_iff]; simp; omega
theorem sumTo_all (l : List S4) : sumTo (setsOf l) (setsOf l).length = 256 := by
  rw [sumTo_eq l _ (Nat.le_refl _)]
  rw [countP_range_congr _ (fun _ => true) _ fun b hb => by simpa using remap_lt l b hb]
  simp
theorem sumTo_le (l : List S4) (n : Nat) (hn : n ≤ (setsOf l).length) : sumTo (setsOf l) n ≤ 256 := by
  rw [sumTo_eq l n hn]
  exact Nat.le_trans List.countP_le_length (by simp)
theorem sample_of (l : List S4) (k : Nat) (hk : k < (setsOf l).length) : ∃ (b : Nat) (s : S4), b < 256 ∧ ofClass (setsOf l) (k : Int) = s ∧ sampleB s = b ∧ decide (0 ≤ leastI s) = true ∧ remapOf l b = k ∧ s.has b = true ∧ sumTo (setsOf l) (k + 1) = sumTo (setsOf l) k + s.count := by
  have hat := List.getElem?_eq_getElem hk
  obtain ⟨b0, hb0, h0⟩ := some_setsOf l k hk
  have hs0 := (has_setsOf l k _ hat b0 hb0).2 h0
  cases hl : ((setsOf l)[k]).least with
  | none =>
    have := List.find?_eq_none.1 hl b0 (List.mem_range.2 hb0)
    exact absurd hs0 this
  | some b =>
    have hb := List.mem_range.1 (List.mem_of_find?_eq_some hl)
    have hs := List.find?_some hl
    have e := leastI_some hl
    exact ⟨b, _, hb, ofClass_at hat, by unfold sampleB; rw [e]; omega, by rw [e]; simp, (has_setsOf l k _ hat b hb).1 hs, hs, sumTo_succ _ _ _ hat⟩
theorem class_of (l : List S4) (n : Nat) (hn : n < 256) : ∃ (k : Nat) (s : S4), remapOf l n = k ∧ k < 256 ∧ s.has n = true ∧ ofClass (setsOf l) (k : Int) = s := by
  have hkl := remap_lt l n hn
  have hat := List.getElem?_eq_getElem hkl
  exact ⟨_, _, rfl, Nat.lt_of_lt_of_le hkl (setsOf_le l), (has_setsOf l _ _ hat n hn).2 rfl, ofClass_at hat⟩
set_option maxRecDepth 100000 in
set_option maxHeartbeats 1000000 in
theorem tell_any (l : List S4) (A : Option Addr) (c : Nat) (w : World) (hrow : RowAt w 0 w.heap.size A (setsCells l)) (hT : TabAt w) :
    Calls Tryd.prog 3 #[.slice A l.length c] w fun e w' => e = .returned (.bool true) ∧ Below w.heap.size w w' := by
  obtain ⟨i0, hi, hz0, hz1, hz2⟩ := info_parts info_set
  go_enter Tryd.func3, Tryd.ntmps3
  by_cases hlen : 30 < l.length
  · have d1 : decide ((30 : Int) < (l.length : Int)) = true := by simp; omega
    go_wp2_with fail
    refine (awake_any w hT).mono ?_
    rintro e w1 ⟨rfl, hB⟩
    go_wp2_with (go_at_call 8; refine (awake_any _ (hT.after hB)).mono ?_; rintro e w2 ⟨rfl, hb2⟩)
    go_returns
    exact ⟨rfl, below_seq hB hb2 hB.size⟩
  · have d1 : decide ((30 : Int) < (l.length : Int)) = false := by simp; omega
    go_wp2_with fail
    refine (awake_any w hT).mono ?_
    rintro e w1 ⟨rfl, hB⟩
    have hr1 : RowAt (w1.alloc (.cells #[] 35)) 0 w.heap.size A (setsCells l) := (hrow.keep hB).keep ((Below.refl _ _).alloc hB.size _)
    go_wp2_with (at_builtin; go_loud (refine wpList_append_row rfl _ _ 22 rfl w1.heap.size 35 i0 (.agg #[.int .u64 0, .int .u64 0, .int .u64 0, .int .u64 0]) 4 32 Tryd.underlying22 hi hz0 hz1 hz2 rfl (by decide) _ _ _ rfl (own_empty _ _ _) 0 _ A l.length c (setsCells l) rfl (setsCells_length l) hr1 (List.all_eq_true.1 (setsCells_one l)) (by simp only [maxLen]; omega) (by omega) (by simp) ?_); intro v2 w2 hown2 hg2 _; obtain ⟨hB2, A2, c2, rfl, row2⟩ := copied hB hg2 hB.size hown2)
    refine (cut_any l (by omega) A2 c2 w2 row2).mono ?_
    rintro e w3 ⟨p, rfl, hP, hb3⟩
    have hB3 := below_seq hB2 hb3 hB2.size
    clear hb3 hB2 row2 hown2 hg2 hr1 hB
    go_wp2_with fail
    refine (refRemap_any l (by omega) A c w3 ((hrow.keep hB3).mono (Nat.le_refl _) hB3.size)).mono ?_
    rintro e w4 ⟨rfl, hb4⟩
    have hB4 := below_seq hB3 hb4 hB3.size
    replace hP := (hP.below hb4)
    clear hb4 hB3
    have z1 := zero_iints
    have z2 := alloc_iints
    have z3 := zero_bytes
    have z4 := alloc_bytes
    have q1 : Hid (∀ n, n < 256 → (icells fun x => (remapOf l x : Int))[n]? = some (.int .i64 (remapOf l n))) := fun n hn => icells_at _ n hn
    have q2 : Hid (∀ n, n < 256 → (rcells (remapOf l))[n]? = some (.int .u8 (remapOf l n))) := fun n hn => rcells_at _ n hn
    have q3 := icells_one fun x => (remapOf l x : Int)
    have q4 := icells_size fun x => (remapOf l x : Int)
    have q5 := rcells_one (remapOf l)
    have q6 := rcells_size (remapOf l)
    have q7 := icells_size fun _ => 0
    have q8 := rcells_size fun _ => 0
    have R : Hid (∀ w B p ss, PartsAt w B p (remapOf l) ss → Calls Tryd.prog 11 #[.pointer (some ⟨p, 0, none⟩)] w fun e w' => e = .returned (.agg (rcells (remapOf l))) ∧ Below w.heap.size w w') := fun w B p ss h => remap_any h
    generalize (icells fun x => (remapOf l x : Int)) = rs at *
    generalize (icells fun _ => 0) = rs0 at *
    generalize hbs : (rcells (remapOf l)) = bs at *
    generalize (rcells fun _ => 0) = bs0 at *
    go_wp2_with ((with_reducible refine at_store 26 _ _ _ _ _ _ ?_); refine wpList_store_fresh rfl _ _ _ rfl rfl rs _ _ rfl q3 ?c1 ?c2 ?_)
    case c1 => rw [q4, q7]
    case c2 => rw [q4]; exact size_ints
    refine (R.out _ _ _ _ (hP.below ((Below.refl _ _).alloc (Nat.le_refl _) _))).mono ?_
    rintro e w5 ⟨rfl, hb5⟩
    have hB5 := below_seq (hB4.alloc hB4.size _) hb5 (Nat.le_trans hB4.size (by simp))
    have hr4 := blk_below (heap_alloc_new w4 (.cells rs 26)) hb5
    replace hP := (hP.below ((Below.refl _ _).alloc (Nat.le_refl _) (.cells rs 26))).below hb5
    clear hb5 hB4
    go_wp2_with ((with_reducible refine at_store 29 _ _ _ _ _ _ ?_); refine wpList_store_fresh rfl _ _ _ rfl rfl bs _ _ rfl q5 ?c3 ?c4 ?_)
    case c3 => rw [q6, q8]
    case c4 => rw [q6]; exact size_bytes
    have hT5 : Tl l w w2.heap.size p w4.heap.size w5.heap.size rs bs (w5.alloc (.cells bs 29)) :=
      ⟨hP.below ((Below.refl _ _).alloc (Nat.le_refl _) _), blk_alloc hr4 _, heap_alloc_new _ _, hB5.alloc hB5.size _⟩
    clear hP hr4 hB5
    generalize w5.alloc (.cells bs 29) = w6 at *
    clear hbs z1 z2 z3 z4 R q3 q4 q5 q6 q7 q8 hi hz0 hz1 hz2 d1
    go_loopw [32] (fun i wr => Tl1 l w w2.heap.size p w4.heap.size w5.heap.size rs bs i wr) (fun i _ => 256 - (intOf i).toNat)
    case atStart => exact ⟨0, by omega, rfl, hT5⟩
    case round =>
      obtain ⟨n, hn, rfl, hR⟩ := hrel
      by_cases hlt : n < 256
      · obtain ⟨k, s, hk, hk256, hhas, hof⟩ := class_of l n hlt
        have cl := class_any hR.hP n (by omega) (by omega) k hk hk256
        have c4 : wr.cell? ⟨w4.heap.size, n, none⟩ = some (.int .i64 k) := (cell_of_row wr _ n _ _ _ hR.b4).trans (by rw [q1.out n hlt, hk])
        have c6 : wr.cell? ⟨w5.heap.size, n, none⟩ = some (.int .u8 k) := (cell_of_row wr _ n _ _ _ hR.b6).trans (by rw [q2.out n hlt, hk])
        have cof := of_class_any hR.hP (k : Int)
        rw [hof] at cof
        have hh := has_is s true n (by omega) (by omega) hhas
        have CL := Lib.hid cl
        have COF := Lib.hid cof
        have HH := Lib.hid hh
        clear cl cof hh hof hhas hk
        go_wp2_with (first
          | (go_at_call 12; refine CL.out.mono ?_; rintro e w' ⟨rfl, rfl⟩)
          | (go_at_call 14; refine COF.out.mono ?_; rintro e w7 ⟨rfl, hb7⟩)
          | (go_at_call 13; refine (HH.out _).mono ?_; rintro e w8 ⟨rfl, hb8⟩))
        go_roundw
        case rel => exact ⟨n + 1, by omega, by go_num, hR.below (below_all hb7 hb8)⟩
        case measure => simp [intOf]; omega
      · obtain rfl : n = 256 := by omega
        go_wp2
        obtain ⟨w9, rfl⟩ : ∃ w9 : World, w9 = wr := ⟨_, rfl⟩
        go_loopw [9, 63] (fun t i wi => Tl2 l w w2.heap.size p w4.heap.size w5.heap.size rs bs t i wi) (fun _ i _ => (setsOf l).length - (intOf i).toNat)
        case atStart => exact ⟨0, Nat.zero_le _, rfl, rfl, hR⟩
        case round =>
          obtain ⟨m, hm, rfl, rfl, hR2⟩ := hrel
          have hle := setsOf_le l
          by_cases hml : m < (setsOf l).length
          · have d3 : decide ((m : Int) < ((setsOf l).length : Int)) = true := by simp; omega
            obtain ⟨b, s, hb, hof, hsm, hpos, hre, hhas, hsum⟩ := sample_of l m hml
            have hs1 := sumTo_le l (m + 1) hml
            have c4 : wr.cell? ⟨w4.heap.size, b, none⟩ = some (.int .i64 m) := (cell_of_row wr _ b _ _ _ hR2.b4).trans (by rw [q1.out b hb, hre])
            have hbk := Lib.hid hR2.b4
            have csm := sample_any hR2.hP (hT.after hR2.b) (m : Int)
            rw [hof, hsm, hpos] at csm
            have CSM := Lib.hid csm
            have HR := Lib.hid hR2
            have COF : Hid (∀ w1, PartsAt w1 w2.heap.size p (remapOf l) (setsOf l) → Calls Tryd.prog 14 #[.pointer (some ⟨p, 0, none⟩), .int .i64 m] w1 fun e w' => e = .returned s.val ∧ Below w1.heap.size w1 w') := fun w1 h1 => by rw [← hof]; exact of_class_any h1 _
            have HS := Lib.hid hsum
            have hs2 : sumTo (setsOf l) m + s.count ≤ 256 := by omega
            have HC := Lib.hid c4
            clear csm hof hsm hpos hre hhas hR hR2 c4 hsum
            go_wp2_with (first
              | (go_at_call 15; refine CSM.out.mono ?_; rintro e w10 ⟨rfl, hb10⟩; have c4 : w10.cell? ⟨w4.heap.size, b, none⟩ = some (.int .i64 m) := (hb10.cell (p := ⟨w4.heap.size, b, none⟩) (blk_lt hbk.out)).trans HC.out)
              | (go_at_call 14; refine (COF.out _ (HR.out.below hb10).hP).mono ?_; rintro e w11 ⟨rfl, hb11⟩)
              | (go_at_call 16; refine (count_any s _).mono ?_; rintro e w12 ⟨rfl, hb12⟩))
            go_roundw
            case rel =>
              have X : Tl2 l w w2.heap.size p w4.heap.size w5.heap.size rs bs (.int .i64 ((sumTo (setsOf l) m : Int) + (s.count : Int))) (.int .i64 ((m : Int) + 1)) w12 :=
                ⟨m + 1, hml, by go_num, by rw [HS.out]; go_num, HR.out.below (below_all (below_all hb10 hb11) hb12)⟩
              first | exact X | ((repeat apply Exists.intro); exact ⟨X, rfl⟩)
            case measure => simp [intOf]; omega
          · have hall := sumTo_all l
            have hlen9 := fun (h : PartsAt wr w2.heap.size p (remapOf l) (setsOf l)) => len_any h
            generalize (setsOf l).length = N at *
            have hmN : m = N := Nat.le_antisymm hm (Nat.le_of_not_lt hml)
            subst hmN
            have d3 : decide ((m : Int) < (m : Int)) = false := by simp
            rw [hall]
            have LN := Lib.hid (hlen9 hR2.hP)
            clear hlen9 hall
            go_wp2_with (go_at_call 17; refine LN.out.mono ?_; rintro e w' ⟨rfl, rfl⟩)
            go_returns
            exact ⟨rfl, hR2.b⟩
end Go.Proofs.YtccbfcnnbdgcgaaDoor
