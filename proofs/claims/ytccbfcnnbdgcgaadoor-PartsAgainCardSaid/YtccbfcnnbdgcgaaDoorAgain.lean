/- The law about cutting again, walked. -/
import Derived.Test.YtccbfcnnbdgcgaaDoorMore
import Derived.Deep.MidRow
namespace Go.Proofs.YtccbfcnnbdgcgaaDoor
open Go.RowKit
attribute [local go_sem] S4.val equalIn_set

/-- A row that is read, below the heap's end. -/
def RowIn (w : World) (A : Option Addr) (xs : List Value) : Prop := RowAt w 0 w.heap.size A xs
theorem RowIn.below {w w1 : World} {A : Option Addr} {xs : List Value} (h : RowIn w A xs) (hb : Below w.heap.size w w1) : RowIn w1 A xs := (RowAt.keep h hb).mono (Nat.le_refl _) hb.size
/-- A partition whose bytes' classes are those of rs. -/
def PR (rs : Array Value) (w : World) (q : Nat) : Prop := ∃ B r ss, PartsAt w B q r ss ∧ rcells r = rs
theorem cut_pr (m : List S4) (hl : m.length ≤ 1099511627776) (rs : Array Value) (hrs : rcells (remapOf m) = rs) (A : Option Addr) (c n : Nat) (hn : m.length = n) (w : World) (hrow : RowIn w A (setsCells m)) :
    Calls Tryd.prog 9 #[.slice A n c] w fun e w' => ∃ q, e = .returned (.pointer (some ⟨q, 0, none⟩)) ∧ PR rs w' q ∧ Below w.heap.size w w' := by
  subst hn
  exact (cut_any m hl A c w hrow).mono fun e w' ⟨q, he, h1, h2⟩ => ⟨q, he, ⟨_, _, _, h1, hrs⟩, h2⟩
theorem remap_pr {rs : Array Value} {w : World} {q : Nat} (h : PR rs w q) :
    Calls Tryd.prog 11 #[.pointer (some ⟨q, 0, none⟩)] w fun e w' => e = .returned (.agg rs) ∧ Below w.heap.size w w' := by
  obtain ⟨B, r, ss, h1, rfl⟩ := h
  exact remap_any h1
section
variable {P : Program} {w : World}
/-- A call of a Go function, met by its contract. -/
theorem wp_call {o : Oper} {a : Act} {K : Act → World → Prop} {Q : Exit → Act → World → Prop} (f : FuncId) (xs : Array Operand) (ats : Array TypeId)
    (ho : o.op = .call { callee := .value (.func f), args := xs, argTypes := ats }) (vals : Array Value) (hv : xs.map a.eval = vals) {R : Value → World → Prop}
    (hrun : (callFunc f vals).run P w = .ok (.enter f vals) w) (hc : Calls P f vals w fun e w' => ∃ v, e = .returned v ∧ R v w')
    (h : ∀ v w', R v w' → K (a.put o.dst v) w') : Oper.wp P o a w K Q := by
  obtain ⟨dst, op, ty, pos, aft, gd⟩ := o
  simp only at ho
  subst ho
  unfold Oper.wp
  rw [execOp_call_go, hv]
  have e : (#[] ++ vals ++ #[] : Array Value) = vals := by simp
  rw [e, hrun, Oper.upon_enter]
  refine hc.mono ?_
  rintro e w' ⟨v, rfl, hr⟩
  exact h v w' hr
theorem wp_append_row {o : Oper} {a : Act} {K : Act → World → Prop} {Q : Exit → Act → World → Prop} (s x : Operand) (t : TypeId)
    (ho : o.op = .call { callee := .builtin .append, args := #[s, x], argTypes := #[t, t] })
    (base : Nat) (e : TypeId) (i : TypeInfo) (z : Value) (size bytes : Nat) (ht : P.underlying t = some (.slice e)) (hi : P.info? e = some i) (hz : i.zero = some z)
    (hsize : i.size = size) (hby : i.bytes = bytes) (hzs : z.cells.size = size) (hsz : 0 < size)
    (v : Value) (n : Nat) (xs : List Value) (hs : a.eval s = v) (hown : w.ownsRow base e size v n xs)
    (L B : Nat) (A : Option Addr) (m c : Nat) (news : List Value) (hx : a.eval x = .slice A m c) (hlen : news.length = m * size) (hr : RowAt w L B A news) (h1 : ∀ u ∈ news, u.oneCell' = true)
    (h63 : n + m ≤ maxLen) (hbytes : (n + m) * bytes ≤ 140737488355328) (hbase : base ≤ w.heap.size)
    (h : ∀ v' w', w'.ownsRow base e size v' (n + m) (xs ++ news) → w.grownBy w' v.ownBlock → (v'.ownBlock = v.ownBlock ∨ v'.ownBlock = some w.heap.size) → K (a.put o.dst v') w') :
    Oper.wp P o a w K Q := by
  obtain ⟨v', w', hrun, h2, h3, h4⟩ := run_append_row (P := P) (w := w) base t o.type e i z size bytes ht hi hz hsize hby hzs hsz v n xs hown L B A m c news hlen hr h1 h63 hbytes hbase
  unfold Oper.wp execOp
  simp only [ho, resolve, invoke, builtin, Sem.run_bind, Sem.run_pure, Result.andThen_ok, List.map_toArray, List.map_cons, List.map_nil, hs, hx, hrun]
  exact h v' w' h2 h3 h4
theorem yields_row {ops : Array Oper} {S : World → Prop} {op : Oper} {a : Act} (hw : Region.wanted op (yielded ops a.tmps) = true) (ty : TypeId) (x : Operand) (ho : op.op = .load ty x)
    (b o : Nat) (hx : a.eval x = .pointer (some ⟨b, o, none⟩)) (cs : Array Value) (d : TypeDesc) (hS : ∀ w, S w → w.rangeAt b o cs.toList)
    (hu : P.underlying ty = some d) (hd : d.isRow = true) (hi : (P.info? ty).map (·.size) = some cs.toList.length) : YieldsIf P ops S op (.agg cs) a := by
  have h := yieldsIf_load_mid hw ty x ho b o hx cs.toList d hS hu hd hi
  rwa [Array.toArray_toList] at h
theorem call_remap (v : Value) (w : World) : (callFunc 11 #[v]).run Tryd.prog w = .ok (.enter 11 #[v]) w := by kernel_rfl
end
/-- What the law's last line reads. -/
structure Ag (w : World) (A A4 A5 : Option Addr) (xs x4 x5 : List Value) (g : Nat) (rs : Array Value) (wx : World) : Prop where
  r0 : RowIn wx A xs
  r4 : RowIn wx A4 x4
  r5 : RowIn wx A5 x5
  b9 : wx.heap[g]? = some (.cells rs 29 (0, 0))
  b : Below w.heap.size w wx
theorem Ag.below {w : World} {A A4 A5 : Option Addr} {xs x4 x5 : List Value} {g : Nat} {rs : Array Value} {wx w1 : World} (h : Ag w A A4 A5 xs x4 x5 g rs wx) (hb : Below wx.heap.size wx w1) : Ag w A A4 A5 xs x4 x5 g rs w1 :=
  ⟨h.r0.below hb, h.r4.below hb, h.r5.below hb, blk_below h.b9 hb, below_seq h.b hb h.b.size⟩
theorem Ag.drew {w : World} {A A4 A5 : Option Addr} {xs x4 x5 : List Value} {g : Nat} {rs : Array Value} {wx : World} (h : Ag w A A4 A5 xs x4 x5 g rs wx) : Ag w A A4 A5 xs x4 x5 g rs wx.drew := ⟨h.r0, h.r4, h.r5, h.b9, h.b.drew⟩
theorem range_blk {w : World} {g : Nat} {rs : Array Value} {t : TypeId} (h : w.heap[g]? = some (.cells rs t (0, 0))) : w.rangeAt g 0 rs.toList := by
  have := World.rangeAt_of_block h 0 rs.size
  simpa using this
theorem ag_keep {w : World} {A A4 A5 : Option Addr} {xs x4 x5 : List Value} {g : Nat} {rs : Array Value} {wx w1 : World} (h : Ag w A A4 A5 xs x4 x5 g rs wx) (hb : Below wx.heap.size wx w1) :
    w1.rangeAt g 0 rs.toList ∧ Ag w A A4 A5 xs x4 x5 g rs w1 := ⟨range_blk (h.below hb).b9, h.below hb⟩
theorem ag_drew {w : World} {A A4 A5 : Option Addr} {xs x4 x5 : List Value} {g : Nat} {rs : Array Value} {wx : World} (h : Ag w A A4 A5 xs x4 x5 g rs wx) :
    wx.drew.rangeAt g 0 rs.toList ∧ Ag w A A4 A5 xs x4 x5 g rs wx.drew := ⟨range_blk h.drew.b9, h.drew⟩
def Ag1 (l : List S4) (ws : World) (v i : Value) (wr : World) : Prop := ∃ n : Nat, n ≤ (setsOf l).length ∧ i = .int .i64 (n : Int) ∧ wr.ownsRow ws.heap.size 35 4 v n (setsCells ((setsOf l).take n)) ∧ Below ws.heap.size ws wr
def Ag2 (l : List S4) (ws : World) (v i : Value) (wr : World) : Prop := ∃ n : Nat, n ≤ l.length ∧ i = .int .i64 (n : Int) ∧ wr.ownsRow ws.heap.size 35 4 v n (setsCells ((l.map S4.not).take n)) ∧ Below ws.heap.size ws wr
set_option maxRecDepth 100000 in
set_option maxHeartbeats 1000000 in
theorem again_any (l : List S4) (A : Option Addr) (c : Nat) (w : World) (hrow : RowAt w 0 w.heap.size A (setsCells l)) (hT : TabAt w) :
    Calls Tryd.prog 7 #[.slice A l.length c] w fun e w' => e = .returned (.bool true) ∧ Below w.heap.size w w' := by
  obtain ⟨i0, hi, hz0, hz1, hz2⟩ := info_parts info_set
  go_enter Tryd.func7, Tryd.ntmps7
  by_cases hlen : 20 < l.length
  · have d1 : decide ((20 : Int) < (l.length : Int)) = true := by simp; omega
    go_wp2_with fail
    refine (awake_any w hT).mono ?_
    rintro e w1 ⟨rfl, hB⟩
    go_wp2_with (go_at_call 8; refine (awake_any _ (hT.after hB)).mono ?_; rintro e w2 ⟨rfl, hb2⟩)
    go_returns
    exact ⟨rfl, below_seq hB hb2 hB.size⟩
  · have d1 : decide ((20 : Int) < (l.length : Int)) = false := by simp; omega
    go_wp2_with fail
    refine (awake_any w hT).mono ?_
    rintro e w1 ⟨rfl, hB⟩
    have hr1 : RowAt (w1.alloc (.cells #[] 35)) 0 w.heap.size A (setsCells l) := (hrow.keep hB).keep ((Below.refl _ _).alloc hB.size _)
    go_wp2_with (at_builtin; go_loud (refine wpList_append_row rfl _ _ 22 rfl w1.heap.size 35 i0 (.agg #[.int .u64 0, .int .u64 0, .int .u64 0, .int .u64 0]) 4 32 Tryd.underlying22 hi hz0 hz1 hz2 rfl (by decide) _ _ _ rfl (own_empty _ _ _) 0 _ A l.length c (setsCells l) rfl (setsCells_length l) hr1 (List.all_eq_true.1 (setsCells_one l)) (by simp only [maxLen]; omega) (by omega) (by simp) ?_); intro v2 w2 hown2 hg2 _; obtain ⟨hB2, A2, c2, rfl, row2⟩ := copied hB hg2 hB.size hown2)
    refine (cut_any l (by omega) A2 c2 w2 row2).mono ?_
    rintro e w3 ⟨p, rfl, hP, hb3⟩
    have hB3 := below_seq hB2 hb3 hB2.size
    clear hb3 hB2 row2 hown2 hg2 hr1 hB
    have LP := Lib.hid (fun w B p (h : PartsAt w B p (remapOf l) (setsOf l)) => len_any h)
    go_wp2_with (go_at_call 17; refine (LP.out _ _ _ hP).mono ?_; rintro e w4 ⟨rfl, rfl⟩)
    have hle := setsOf_le l
    generalize hN : (setsOf l).length = N at *
    have hsz3 := hB3.size
    go_loopw [4, 24] (fun v i wr => Ag1 l w3 v i wr) (fun _ i _ => N - (intOf i).toNat)
    case atStart => exact ⟨0, Nat.zero_le _, rfl, by simpa [setsCells] using World.ownsRow_nil _ _ _ _, Below.refl _ _⟩
    case round =>
      obtain ⟨n, hn, rfl, hown, hB⟩ := hrel
      rw [hN] at hn
      by_cases hlt : n < N
      · have d3 : decide ((n : Int) < (N : Int)) = true := by simp; omega
        have hlt' : n < (setsOf l).length := by omega
        have hat := List.getElem?_eq_getElem hlt'
        have hof := ofClass_at hat
        have hst : setsCells ((setsOf l).take (n + 1)) = setsCells ((setsOf l).take n) ++ (setsOf l)[n].cells.toList := by
          rw [List.take_succ_eq_append_getElem hlt', setsCells_append]; simp [setsCells]
        generalize (setsOf l)[n] = s at *
        have COF : Hid (Calls Tryd.prog 14 #[.pointer (some ⟨p, 0, none⟩), .int .i64 n] wr fun e w' => e = .returned s.val ∧ Below wr.heap.size wr w') := by rw [← hof]; exact of_class_any (hP.below hB) _
        have HST := Lib.hid hst
        have HB := Lib.hid hB
        have hbs := hB.size
        clear hst hat hof hlt' hB
        go_wp2_with (first
          | (go_at_call 14; refine COF.out.mono ?_; rintro e w5 ⟨rfl, hb5⟩; have hown5 := own_below hown hb5; have hs5 := hb5.size)
          | (at_builtin; refine wpList_push rfl _ _ 22 rfl w3.heap.size 35 i0 (.agg #[.int .u64 0, .int .u64 0, .int .u64 0, .int .u64 0]) 4 32 Tryd.underlying22 hi hz0 hz1 hz2 rfl (by decide) _ _ _ rfl hown5 1 _ _ rfl rfl rfl (by omega) (by decide) (by omega) ?_; intro v7 w7 hown7 hg7 _))
        go_roundw
        case rel =>
          refine ⟨n + 1, by omega, by go_num, by rw [HST.out]; exact hown7, (HB.out.trans (hb5.mono hbs)).grown hg7 (by omega) (own_row hown5)⟩
        case measure => simp [intOf]; omega
      · obtain rfl : n = N := by omega
        rw [List.take_of_length_le (by omega)] at hown
        obtain ⟨A4, c4, rfl⟩ := own_slice hown
        have d3 : decide ((n : Int) < (n : Int)) = false := by simp
        have hB4 := below_seq hB3 hB hB3.size
        have hr4 : RowIn wr A4 (setsCells (setsOf l)) := (RowAt.own hown).mono (Nat.zero_le _) (Nat.le_refl _)
        have hP4 := hP.below hB
        have hr0 : RowIn wr A (setsCells l) := (hrow.keep hB4).mono (Nat.le_refl _) hB4.size
        clear hown hB hB3 hP hrow
        go_wp2
        obtain ⟨w5, hw5⟩ : ∃ w5 : World, w5 = wr := ⟨_, rfl⟩
        rw [← hw5] at hB4 hr4 hP4 hr0 ⊢
        clear hw5 LP
        have hsz5 := hB4.size
        go_loopw [5, 36] (fun v i wi => Ag2 l w5 v i wi) (fun _ i _ => l.length - (intOf i).toNat)
        case atStart => exact ⟨0, Nat.zero_le _, rfl, by simpa [setsCells] using World.ownsRow_nil _ _ _ _, Below.refl _ _⟩
        case round =>
          obtain ⟨m, hm, rfl, hown, hB⟩ := hrel
          by_cases hml : m < l.length
          · have d4 : decide ((m : Int) < (l.length : Int)) = true := by simp; omega
            obtain ⟨ad, rfl, _, hbl, hcells⟩ := row_set (hr0.below hB) (List.getElem?_eq_getElem hml)
            have hst : setsCells ((l.map S4.not).take (m + 1)) = setsCells ((l.map S4.not).take m) ++ (l[m].not).cells.toList := by
              rw [List.take_succ_eq_append_getElem (by simpa using hml), setsCells_append]; simp [setsCells]
            generalize l[m] = s at *
            have e0 := hcells 0 _ rfl
            have e1 := hcells 1 _ rfl
            have e2 := hcells 2 _ rfl
            have e3 := hcells 3 _ rfl
            rw [add_one_addr _ _ (by decide)] at e1 e2 e3
            rw [show ((ad.add (m * 4)).add 0) = ad.add (m * 4) from rfl] at e0
            have HST := Lib.hid hst
            have HB := Lib.hid hB
            have hbs := hB.size
            have howna := hown.alloc (.cells s.cells 35)
            clear hcells hst hB hr4 hr0 hP4
            go_wp2_with (first
              | (go_at_call 22; refine (not_any s _).mono ?_; rintro e w6 ⟨rfl, hb6⟩; have hown6 := own_below howna hb6; have hs6 : wr.heap.size + 1 ≤ w6.heap.size := by (have := hb6.size; simp at this; exact this))
              | (at_builtin; refine wpList_push rfl _ _ 22 rfl w5.heap.size 35 i0 (.agg #[.int .u64 0, .int .u64 0, .int .u64 0, .int .u64 0]) 4 32 Tryd.underlying22 hi hz0 hz1 hz2 rfl (by decide) _ _ _ rfl hown6 1 _ _ rfl rfl rfl (by omega) (by decide) (by omega) ?_; intro v7 w7 hown7 hg7 _))
            go_roundw
            case rel =>
              refine ⟨m + 1, by omega, by go_num, by rw [HST.out]; exact hown7, (below_seq (HB.out.alloc hbs _) hb6 (by simp; omega)).grown hg7 (by omega) (own_row hown6)⟩
            case measure => simp [intOf]; omega
          · obtain rfl : m = l.length := by omega
            rw [List.take_of_length_le (by simp)] at hown
            obtain ⟨A5, c5, rfl⟩ := own_slice hown
            have d4 : decide ((l.length : Int) < (l.length : Int)) = false := by simp
            have hB5 := below_seq hB4 hB hB4.size
            have hr5 : RowIn wr A5 (setsCells (l.map S4.not)) := (RowAt.own hown).mono (Nat.zero_le _) (Nat.le_refl _)
            replace hr4 := hr4.below hB
            replace hr0 := hr0.below hB
            replace hP4 := hP4.below hB
            clear hown hB hB4
            have z3 := zero_bytes
            have z4 := alloc_bytes
            have q5 := rcells_one (remapOf l)
            have q6 := rcells_size (remapOf l)
            have q8 := rcells_size fun _ => 0
            have R0 := Lib.hid (fun w B p (h : PartsAt w B p (remapOf l) (setsOf l)) => remap_any h)
            have H1 : Hid (rcells (remapOf (setsOf l)) = rcells (remapOf l)) := rcells_congr (remap_classes l)
            have H2 : Hid (rcells (remapOf (l ++ l)) = rcells (remapOf l)) := rcells_congr (remap_twice l)
            have H3 : Hid (rcells (remapOf (l.map S4.not)) = rcells (remapOf l)) := rcells_congr (remap_nots l)
            have f6 : ∀ w, (Op.equalIn 10000 29 (.agg (rcells (remapOf l))) (.agg (rcells (remapOf l)))).run Tryd.prog w = .ok true w := fun w => by rw [equalIn_bytes]; exact congrArg (fun b => Result.ok b w) ((sameOn_iff _ _ 256 0).2 fun _ _ _ => rfl)
            generalize rcells (remapOf l) = rs at *
            generalize (rcells fun _ => 0) = rs0 at *
            go_wp2_with (first
              | (go_at_call 11; refine (R0.out _ _ _ hP4).mono ?_; rintro e w8 ⟨rfl, hb8⟩)
              | ((with_reducible refine at_store 29 _ _ _ _ _ _ ?_); refine wpList_store_fresh rfl _ _ _ rfl rfl rs _ _ rfl q5 ?c3 ?c4 ?_))
            case c3 => rw [q6, q8]
            case c4 => rw [q6]; exact size_bytes
            have hAg : Ag w A A4 A5 (setsCells l) (setsCells (setsOf l)) (setsCells (l.map S4.not)) w8.heap.size rs (w8.alloc (.cells rs 29)) :=
              ⟨(hr0.below hb8).below ((Below.refl _ _).alloc (Nat.le_refl _) _), (hr4.below hb8).below ((Below.refl _ _).alloc (Nat.le_refl _) _), (hr5.below hb8).below ((Below.refl _ _).alloc (Nat.le_refl _) _), heap_alloc_new _ _, (below_seq hB5 hb8 hB5.size).alloc (Nat.le_trans hB5.size hb8.size) _⟩
            generalize w8.heap.size = g9 at *
            generalize w8.alloc (.cells rs 29) = w9 at *
            have C1 := Lib.hid (fun wx (h : RowIn wx A4 (setsCells (setsOf l))) => cut_pr (setsOf l) (by rw [hN]; omega) rs H1.out A4 c4 n hN wx h)
            have C3 := Lib.hid (fun wx (h : RowIn wx A5 (setsCells (l.map S4.not))) => cut_pr (l.map S4.not) (by simp; omega) rs H3.out A5 c5 l.length (by simp) wx h)
            have C2 := Lib.hid (fun A6 c6 wx (h : RowIn wx A6 (setsCells (l ++ l))) => cut_pr (l ++ l) (by simp; omega) rs H2.out A6 c6 (l.length + l.length) (by simp) wx h)
            clear hr0 hr4 hr5 hP4 hB5 hb8 H1 H2 H3 R0 z3 z4 q8 hsz5 hsz3 d3 d4 hle
            have hl0 : ∀ w : World, RowIn w A (setsCells l) → RowAt w 0 w.heap.size A (setsCells l) := fun _ h => h
            have hu := Tryd.underlying29
            have hii : (Tryd.prog.info? 29).map (·.size) = some rs.toList.length := by rw [Array.length_toList, q6]; exact size_bytes
            have hl256 : rs.toList.length = 256 := by rw [Array.length_toList, q6]
            have q5' : ∀ v ∈ rs.toList, v.oneCell' = true := q5
            refine wp_region_noPanic ?_
            refine wp_region_held_drew (S := (fun w' => w'.rangeAt g9 0 rs.toList ∧ Ag w A A4 A5 (setsCells l) (setsCells (setsOf l)) (setsCells (l.map S4.not)) g9 rs w')) (by kernel_rfl) (ag_drew hAg) (fun hH => ?_)
            refine wpAnyH_take (i := 0) (oi := ⟨some 48, _, _, _, _, _⟩) (v := .slice A4 n c4) rfl (by kernel_rfl) (by kernel_rfl) (by kernel_rfl) (fun _ _ _ h => h) (Or.inl ⟨by rfl, fun wq hq => ?_⟩) hH ?_
            · go_simp
            simp only [Act.put, List.setIfInBounds_toArray, List.set_cons_zero, List.set_cons_succ]
            refine wpAnyH_take (i := 3) (oi := ⟨some 51, _, _, _, _, _⟩) (v := _) rfl (by kernel_rfl) (by kernel_rfl) (by kernel_rfl) (fun _ _ _ h => h) (yields_row (by rfl) 29 (.tmp 9) rfl g9 0 rfl rs _ (fun wq hq => hq.1) hu rfl hii) hH ?_
            simp only [Act.put, List.setIfInBounds_toArray, List.set_cons_zero, List.set_cons_succ]
            refine wpAnyH_ready (rs := [1]) (by kernel_rfl) (by simp) (AllReadyH.cons (o := ⟨some 49, .call { callee := .value (.func 9), args := #[.tmp 48], argTypes := #[22] }, _, _, _, _⟩) rfl (fun K hK => ?_) AllReadyH.nil)
            rw [if_pos (by rfl)]
            refine wp_call _ _ _ rfl #[.slice A4 n c4] (by simp [Act.eval]) (R := fun v w' => ∃ q, v = .pointer (some ⟨q, 0, none⟩) ∧ PR rs w' q ∧ Below _ _ w') (call_cut _ _) ((C1.out _ hH.2.r4).mono (by rintro e w' ⟨q, rfl, h1, h2⟩; exact ⟨_, rfl, q, rfl, h1, h2⟩)) ?_
            rintro v1 w1 ⟨q, rfl, hq, hb1⟩
            refine hK.out _ _ (ag_keep hH.2 hb1) (fun hHn => ?_)
            replace hH := hHn
            clear hK K hHn
            simp only [Act.put, List.setIfInBounds_toArray, List.set_cons_zero, List.set_cons_succ]
            refine wpAnyH_ready (rs := [2]) (by kernel_rfl) (by simp) (AllReadyH.cons (o := ⟨some 50, .call { callee := .value (.func 11), args := #[.tmp 49], argTypes := #[24] }, _, _, _, _⟩) rfl (fun K hK => ?_) AllReadyH.nil)
            rw [if_pos (by rfl)]
            refine wp_call _ _ _ rfl #[.pointer (some ⟨q, 0, none⟩)] (by simp [Act.eval]) (R := fun v w' => v = .agg rs ∧ Below _ _ w') (call_remap _ _) ((remap_pr hq).mono (by rintro e w' ⟨rfl, h2⟩; exact ⟨_, rfl, rfl, h2⟩)) ?_
            rintro v1 w1 ⟨rfl, hb1⟩
            refine hK.out _ _ (ag_keep hH.2 hb1) (fun hHn => ?_)
            replace hH := hHn
            clear hK K hHn
            simp only [Act.put, List.setIfInBounds_toArray, List.set_cons_zero, List.set_cons_succ]
            refine wpAnyH_take (i := 4) (oi := ⟨some 52, _, _, _, _, _⟩) (v := .bool true) rfl (by kernel_rfl) (by kernel_rfl) (by kernel_rfl) (fun _ _ _ h => h) (Or.inl ⟨by rfl, fun wq hq => ?_⟩) hH ?_
            · go_simp
            simp only [Act.put, List.setIfInBounds_toArray, List.set_cons_zero, List.set_cons_succ]
            refine wpAnyH_take (i := 5) (oi := ⟨some 53, _, _, _, _, _⟩) (v := .bool true) rfl (by kernel_rfl) (by kernel_rfl) (by kernel_rfl) (fun _ _ _ h => h) (Or.inl ⟨by rfl, fun wq hq => ?_⟩) hH ?_
            · go_simp
            simp only [Act.put, List.setIfInBounds_toArray, List.set_cons_zero, List.set_cons_succ]
            refine wpAnyH_take (i := 7) (oi := ⟨some 55, _, _, _, _, _⟩) (v := .slice A l.length c) rfl (by kernel_rfl) (by kernel_rfl) (by kernel_rfl) (fun _ _ _ h => h) (Or.inl ⟨by rfl, fun wq hq => ?_⟩) hH ?_
            · go_simp
            simp only [Act.put, List.setIfInBounds_toArray, List.set_cons_zero, List.set_cons_succ]
            refine wpAnyH_take (i := 9) (oi := ⟨some 57, _, _, _, _, _⟩) (v := .slice A l.length c) rfl (by kernel_rfl) (by kernel_rfl) (by kernel_rfl) (fun _ _ _ h => h) (Or.inl ⟨by rfl, fun wq hq => ?_⟩) hH ?_
            · go_simp
            simp only [Act.put, List.setIfInBounds_toArray, List.set_cons_zero, List.set_cons_succ]
            refine wpAnyH_take (i := 13) (oi := ⟨some 61, _, _, _, _, _⟩) (v := _) rfl (by kernel_rfl) (by kernel_rfl) (by kernel_rfl) (fun _ _ _ h => h) (yields_row (by rfl) 29 (.tmp 9) rfl g9 0 rfl rs _ (fun wq hq => hq.1) hu rfl hii) hH ?_
            simp only [Act.put, List.setIfInBounds_toArray, List.set_cons_zero, List.set_cons_succ]
            obtain ⟨wa, hwa⟩ : ∃ wa : World, wa = w1 := ⟨_, rfl⟩
            rw [← hwa] at hH ⊢
            clear hwa
            have hHa := hH
            refine wpAnyH_ready (rs := [6]) (by kernel_rfl) (by simp) (AllReadyH.cons (o := ⟨some 54, .buildSlice 22 0 #[], _, _, _, _⟩) rfl (fun K hK => ?_) AllReadyH.nil)
            rw [if_pos (by rfl)]
            go_simp
            refine hK.out _ _ (ag_keep hH.2 ((Below.refl _ _).alloc (Nat.le_refl _) _)) (fun hHn => ?_)
            replace hH := hHn
            clear hK K hHn
            refine wpAnyH_ready (rs := [8]) (by kernel_rfl) (by simp) (AllReadyH.cons (o := ⟨some 56, .call { callee := .builtin .append, args := #[.tmp 54, .tmp 55], argTypes := #[22, 22] }, _, _, _, _⟩) rfl (fun K hK => ?_) AllReadyH.nil)
            rw [if_pos (by rfl)]
            refine wp_append_row (.tmp 54) (.tmp 55) 22 rfl wa.heap.size 35 i0 (.agg #[.int .u64 0, .int .u64 0, .int .u64 0, .int .u64 0]) 4 32 Tryd.underlying22 hi hz0 hz1 hz2 rfl (by decide) _ _ _ rfl (own_empty _ _ _) 0 _ A l.length c (setsCells l) rfl (setsCells_length l) hH.2.r0 (List.all_eq_true.1 (setsCells_one l)) (by simp only [maxLen]; omega) (by omega) (by simp) ?_
            intro v4 w4 hown4 hg4 _
            have hb4 : Below wa.heap.size wa w4 := ((Below.refl _ _).alloc (Nat.le_refl _) _).grown hg4 (by simp) (fun k hk => Nat.le_of_eq (Option.some.inj hk))
            rw [Nat.zero_add, List.nil_append] at hown4
            refine hK.out _ _ (ag_keep hHa.2 hb4) (fun hHn => ?_)
            replace hH := hHn
            clear hK K hHn
            simp only [Act.put, List.setIfInBounds_toArray, List.set_cons_zero, List.set_cons_succ]
            refine wpAnyH_ready (rs := [10]) (by kernel_rfl) (by simp) (AllReadyH.cons (o := ⟨some 58, .call { callee := .builtin .append, args := #[.tmp 56, .tmp 57], argTypes := #[22, 22] }, _, _, _, _⟩) rfl (fun K hK => ?_) AllReadyH.nil)
            rw [if_pos (by rfl)]
            refine wp_append_row (.tmp 56) (.tmp 57) 22 rfl wa.heap.size 35 i0 (.agg #[.int .u64 0, .int .u64 0, .int .u64 0, .int .u64 0]) 4 32 Tryd.underlying22 hi hz0 hz1 hz2 rfl (by decide) _ _ _ rfl hown4 0 _ A l.length c (setsCells l) rfl (setsCells_length l) hH.2.r0 (List.all_eq_true.1 (setsCells_one l)) (by simp only [maxLen]; omega) (by omega) hb4.size ?_
            intro v5 w5 hown5 hg5 _
            have hb5 : Below wa.heap.size wa w5 := hb4.grown hg5 hb4.size (own_row hown4)
            rw [← setsCells_append] at hown5
            obtain ⟨A6, c6, rfl⟩ := own_slice hown5
            have row6 : RowIn w5 A6 (setsCells (l ++ l)) := (RowAt.own hown5).mono (Nat.zero_le _) (Nat.le_refl _)
            refine hK.out _ _ (ag_keep hHa.2 hb5) (fun hHn => ?_)
            replace hH := hHn
            clear hK K hHn
            simp only [Act.put, List.setIfInBounds_toArray, List.set_cons_zero, List.set_cons_succ]
            clear hHa hown4 hown5 hg4 hg5 hb4 hb5
            refine wpAnyH_ready (rs := [11]) (by kernel_rfl) (by simp) (AllReadyH.cons (o := ⟨some 59, .call { callee := .value (.func 9), args := #[.tmp 58], argTypes := #[22] }, _, _, _, _⟩) rfl (fun K hK => ?_) AllReadyH.nil)
            rw [if_pos (by rfl)]
            refine wp_call _ _ _ rfl #[.slice A6 (l.length + l.length) c6] (by simp [Act.eval]) (R := fun v w' => ∃ q, v = .pointer (some ⟨q, 0, none⟩) ∧ PR rs w' q ∧ Below _ _ w') (call_cut _ _) ((C2.out A6 c6 _ row6).mono (by rintro e w' ⟨q, rfl, h1, h2⟩; exact ⟨_, rfl, q, rfl, h1, h2⟩)) ?_
            rintro v1 w1 ⟨q, rfl, hq, hb1⟩
            refine hK.out _ _ (ag_keep hH.2 hb1) (fun hHn => ?_)
            replace hH := hHn
            clear hK K hHn
            simp only [Act.put, List.setIfInBounds_toArray, List.set_cons_zero, List.set_cons_succ]
            refine wpAnyH_ready (rs := [12]) (by kernel_rfl) (by simp) (AllReadyH.cons (o := ⟨some 60, .call { callee := .value (.func 11), args := #[.tmp 59], argTypes := #[24] }, _, _, _, _⟩) rfl (fun K hK => ?_) AllReadyH.nil)
            rw [if_pos (by rfl)]
            refine wp_call _ _ _ rfl #[.pointer (some ⟨q, 0, none⟩)] (by simp [Act.eval]) (R := fun v w' => v = .agg rs ∧ Below _ _ w') (call_remap _ _) ((remap_pr hq).mono (by rintro e w' ⟨rfl, h2⟩; exact ⟨_, rfl, rfl, h2⟩)) ?_
            rintro v1 w1 ⟨rfl, hb1⟩
            refine hK.out _ _ (ag_keep hH.2 hb1) (fun hHn => ?_)
            replace hH := hHn
            clear hK K hHn
            simp only [Act.put, List.setIfInBounds_toArray, List.set_cons_zero, List.set_cons_succ]
            refine wpAnyH_take (i := 14) (oi := ⟨some 62, _, _, _, _, _⟩) (v := .bool true) rfl (by kernel_rfl) (by kernel_rfl) (by kernel_rfl) (fun _ _ _ h => h) (Or.inl ⟨by rfl, fun wq hq => ?_⟩) hH ?_
            · go_simp
            simp only [Act.put, List.setIfInBounds_toArray, List.set_cons_zero, List.set_cons_succ]
            refine wpAnyH_take (i := 15) (oi := ⟨some 63, _, _, _, _, _⟩) (v := .bool true) rfl (by kernel_rfl) (by kernel_rfl) (by kernel_rfl) (fun _ _ _ h => h) (Or.inl ⟨by rfl, fun wq hq => ?_⟩) hH ?_
            · go_simp
            simp only [Act.put, List.setIfInBounds_toArray, List.set_cons_zero, List.set_cons_succ]
            refine wpAnyH_take (i := 16) (oi := ⟨some 64, _, _, _, _, _⟩) (v := .bool true) rfl (by kernel_rfl) (by kernel_rfl) (by kernel_rfl) (fun _ _ _ h => h) (Or.inl ⟨by rfl, fun wq hq => ?_⟩) hH ?_
            · go_simp
            simp only [Act.put, List.setIfInBounds_toArray, List.set_cons_zero, List.set_cons_succ]
            refine wpAnyH_take (i := 17) (oi := ⟨some 65, _, _, _, _, _⟩) (v := .slice A5 l.length c5) rfl (by kernel_rfl) (by kernel_rfl) (by kernel_rfl) (fun _ _ _ h => h) (Or.inl ⟨by rfl, fun wq hq => ?_⟩) hH ?_
            · go_simp
            simp only [Act.put, List.setIfInBounds_toArray, List.set_cons_zero, List.set_cons_succ]
            refine wpAnyH_take (i := 20) (oi := ⟨some 68, _, _, _, _, _⟩) (v := _) rfl (by kernel_rfl) (by kernel_rfl) (by kernel_rfl) (fun _ _ _ h => h) (yields_row (by rfl) 29 (.tmp 9) rfl g9 0 rfl rs _ (fun wq hq => hq.1) hu rfl hii) hH ?_
            simp only [Act.put, List.setIfInBounds_toArray, List.set_cons_zero, List.set_cons_succ]
            refine wpAnyH_ready (rs := [18]) (by kernel_rfl) (by simp) (AllReadyH.cons (o := ⟨some 66, .call { callee := .value (.func 9), args := #[.tmp 65], argTypes := #[22] }, _, _, _, _⟩) rfl (fun K hK => ?_) AllReadyH.nil)
            rw [if_pos (by rfl)]
            refine wp_call _ _ _ rfl #[.slice A5 l.length c5] (by simp [Act.eval]) (R := fun v w' => ∃ q, v = .pointer (some ⟨q, 0, none⟩) ∧ PR rs w' q ∧ Below _ _ w') (call_cut _ _) ((C3.out _ hH.2.r5).mono (by rintro e w' ⟨q, rfl, h1, h2⟩; exact ⟨_, rfl, q, rfl, h1, h2⟩)) ?_
            rintro v1 w1 ⟨q, rfl, hq, hb1⟩
            refine hK.out _ _ (ag_keep hH.2 hb1) (fun hHn => ?_)
            replace hH := hHn
            clear hK K hHn
            simp only [Act.put, List.setIfInBounds_toArray, List.set_cons_zero, List.set_cons_succ]
            refine wpAnyH_ready (rs := [19]) (by kernel_rfl) (by simp) (AllReadyH.cons (o := ⟨some 67, .call { callee := .value (.func 11), args := #[.tmp 66], argTypes := #[24] }, _, _, _, _⟩) rfl (fun K hK => ?_) AllReadyH.nil)
            rw [if_pos (by rfl)]
            refine wp_call _ _ _ rfl #[.pointer (some ⟨q, 0, none⟩)] (by simp [Act.eval]) (R := fun v w' => v = .agg rs ∧ Below _ _ w') (call_remap _ _) ((remap_pr hq).mono (by rintro e w' ⟨rfl, h2⟩; exact ⟨_, rfl, rfl, h2⟩)) ?_
            rintro v1 w1 ⟨rfl, hb1⟩
            refine hK.out _ _ (ag_keep hH.2 hb1) (fun hHn => ?_)
            replace hH := hHn
            clear hK K hHn
            simp only [Act.put, List.setIfInBounds_toArray, List.set_cons_zero, List.set_cons_succ]
            refine wpAnyH_take (i := 21) (oi := ⟨some 69, _, _, _, _, _⟩) (v := .bool true) rfl (by kernel_rfl) (by kernel_rfl) (by kernel_rfl) (fun _ _ _ h => h) (Or.inl ⟨by rfl, fun wq hq => ?_⟩) hH ?_
            · go_simp
            simp only [Act.put, List.setIfInBounds_toArray, List.set_cons_zero, List.set_cons_succ]
            refine wpAnyH_take (i := 22) (oi := ⟨some 70, _, _, _, _, _⟩) (v := .bool true) rfl (by kernel_rfl) (by kernel_rfl) (by kernel_rfl) (fun _ _ _ h => h) (Or.inl ⟨by rfl, fun wq hq => ?_⟩) hH ?_
            · go_simp
            simp only [Act.put, List.setIfInBounds_toArray, List.set_cons_zero, List.set_cons_succ]
            refine wpAnyH_take (i := 23) (oi := ⟨some 2, _, _, _, _, _⟩) (v := .bool true) rfl (by kernel_rfl) (by kernel_rfl) (by kernel_rfl) (fun _ _ _ h => h) (Or.inl ⟨by rfl, fun wq hq => ?_⟩) hH ?_
            · go_simp
            simp only [Act.put, List.setIfInBounds_toArray, List.set_cons_zero, List.set_cons_succ]
            refine wpAnyH_done (by kernel_rfl) ?_ _
            refine NoPanic.normal ?_
            go_wp2
            go_returns
            exact ⟨rfl, hH.2.b⟩
end Go.Proofs.YtccbfcnnbdgcgaaDoor
