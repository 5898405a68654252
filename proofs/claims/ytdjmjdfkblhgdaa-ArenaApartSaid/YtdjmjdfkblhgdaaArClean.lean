/- All that no region has holds noughts: Clean. -/
import Derived.Test.YtdjmjdfkblhgdaaArWipe
import Derived.Great.BuildSlice
import Derived.Maps.AppendAt
namespace Go.Proofs.Ytdjmjdfkblhgdaa
open Go.RowKit Go.Maps
theorem run_append_row {P : Program} {w : World} (base : Nat) (t ty e : TypeId) (i : TypeInfo) (z : Value) (size bytes : Nat) (ht : P.underlying t = some (.slice e)) (hi : P.info? e = some i) (hz : i.zero = some z)
    (hsize : i.size = size) (hby : i.bytes = bytes) (hzs : z.cells.size = size) (hsz : 0 < size)
    (v : Value) (n : Nat) (xs : List Value) (hown : w.ownsRow base e size v n xs)
    (L B : Nat) (A : Option Addr) (m c : Nat) (news : List Value) (hlen : news.length = m * size) (hr : RowAt w L B A news) (h1 : ∀ u ∈ news, u.oneCell' = true)
    (h63 : n + m ≤ maxLen) (hbytes : (n + m) * bytes ≤ 140737488355328) (hbase : base ≤ w.heap.size) :
    ∃ v' w', (Builtin.append_ #[t, t] ty #[v, .slice A m c]).run P w = .ok v' w' ∧ w'.ownsRow base e size v' (n + m) (xs ++ news) ∧ w.grownBy w' v.ownBlock ∧
      (v'.ownBlock = v.ownBlock ∨ v'.ownBlock = some w.heap.size) := by
  rcases Nat.eq_zero_or_pos m with h0 | h0
  · subst h0
    have hn : news = [] := List.eq_nil_of_length_eq_zero (by simpa using hlen)
    subst hn
    refine ⟨v, w, ?_, by simpa using hown, World.grownBy.refl w _, .inl rfl⟩
    rcases hown.2 with ⟨rfl, rfl⟩ | ⟨g, cap, cur, rfl, _, _, hnc, _⟩
    · cases A <;> simp [Builtin.append_, run_underlying ht, sizeOf, typeInfo, hi, Builtin.lenOf, Builtin.firstCells, loadCells, loadCellsFrom]
    · cases A <;> simp [Builtin.append_, run_underlying ht, sizeOf, typeInfo, hi, Builtin.lenOf, Builtin.firstCells, hnc, storeCells, loadCells, loadCellsFrom]
  · have hpos : 0 < news.length := by rw [hlen]; exact Nat.mul_pos h0 hsz
    obtain ⟨ad, rfl, _, _, _⟩ := hr 0 _ (List.getElem?_eq_getElem hpos)
    have hcells : ∀ j u, news[j]? = some u → w.cell? (ad.add j) = some u := by
      intro j u hu
      obtain ⟨ad', h, _, _, hc⟩ := hr j u hu
      injection h with h
      subst h
      exact hc
    obtain ⟨v', w', hrun, h2, h3, _, h5⟩ := run_append_own_at (P := P) w base t ty e i z size bytes ht hi hz hsize hby hzs hsz v n xs hown ad m c news hlen hcells h1 h63 hbytes hbase
    exact ⟨v', w', hrun, h2, h3, h5⟩
theorem wp_append_row {P : Program} {w : World} {o : Oper} {a : Act} {K : Act → World → Prop} {Q : Exit → Act → World → Prop} (s x : Operand) (t : TypeId)
    (ho : o.op = .call { callee := .builtin .append, args := #[s, x], argTypes := #[t, t] })
    (base : Nat) (e : TypeId) (i : TypeInfo) (z : Value) (size bytes : Nat) (ht : P.underlying t = some (.slice e)) (hi : P.info? e = some i) (hz : i.zero = some z)
    (hsize : i.size = size) (hby : i.bytes = bytes) (hzs : z.cells.size = size) (hsz : 0 < size)
    (v : Value) (n : Nat) (xs : List Value) (hs : a.eval s = v) (hown : w.ownsRow base e size v n xs)
    (L B : Nat) (A : Option Addr) (m c : Nat) (news : List Value) (hx : a.eval x = .slice A m c) (hlen : news.length = m * size) (hr : RowAt w L B A news) (h1 : ∀ u ∈ news, u.oneCell' = true)
    (h63 : n + m ≤ maxLen) (hbytes : (n + m) * bytes ≤ 140737488355328) (hbase : base ≤ w.heap.size)
    (h : ∀ v' w', w'.ownsRow base e size v' (n + m) (xs ++ news) → w.grownBy w' v.ownBlock → (v'.ownBlock = v.ownBlock ∨ v'.ownBlock = some w.heap.size) → K (a.put o.dst v') w') :
    Oper.wp P o a w K Q := by
  obtain ⟨v', w', hrun, h2, h3, h4⟩ := run_append_row (P := P) (w := w) base t o.type e i z size bytes ht hi hz hsize hby hzs hsz v n xs hown L B A m c news hlen hr h1 h63 hbytes hbase
  unfold Oper.wp execOp
  simp only [ho, resolve, invoke, builtin, Sem.run_bind, Sem.run_pure, Result.andThen_ok, List.map_toArray, List.map_cons, List.map_nil, hs, hx, hrun]
  exact h v' w' h2 h3 h4
theorem fill_one {x : Int} (l : List (Nat × Value)) (hl : l = [(0, .agg #[.int .i64 x, .int .i64 0])]) :
    Instr.fill (fun i => some (i * 2, 2)) ((Array.range (1 * 2)).map (fun i => (Value.agg #[.int .i64 0, .int .i64 0]).cells[i % (Value.agg #[.int .i64 0, .int .i64 0]).cells.size]!)) l = some #[.int .i64 x, .int .i64 0] := by
  have e : (Array.range (1 * 2)).map (fun i => (Value.agg #[.int .i64 0, .int .i64 0]).cells[i % (Value.agg #[.int .i64 0, .int .i64 0]).cells.size]!) = #[.int .i64 0, .int .i64 0] := by
    have er : Array.range (1 * 2) = #[0, 1] := by decide
    rw [er]
    simp [Value.cells]
  rw [e, hl]
  simp [Instr.fill, Value.cells]
theorem clean1_any (v : Int) (w : World) : Calls Try.prog 54 #[.int .i64 v] w fun e w' => e = .returned (.bool (!decide (v = 0))) ∧ w = w' := by
  go_enter Try.func54, Try.ntmps54
  go_wp2
  go_returns
  exact ⟨rfl, rfl⟩
theorem index_zero (b o n c : Nat) (hn : n ≤ 1048576) (w : World) (hz : ∀ j, j < n → w.cell? ⟨b, o + j, none⟩ = some (.int .i64 0)) :
    Calls Try.prog 76 #[.slice (some ⟨b, o, none⟩) n c, .func (.func 54) #[] #[]] w fun e w' => e = .returned (.int .i64 (-1)) ∧ w = w' := by
  have HZ := Lib.hid hz
  clear hz
  go_enter Try.func76, Try.ntmps76
  go_wp2
  go_loopw [5, 8] (fun _ i wr => ∃ k : Nat, k ≤ n ∧ i = .int .i64 (k : Int) ∧ wr = w) (fun _ i _ => n - (intOf i).toNat)
  case atStart => exact ⟨0, by simp⟩
  case round =>
    obtain ⟨k, hk, rfl, rfl⟩ := hrel
    by_cases hlt : k < n
    · have d3 : decide ((k : Int) < (n : Int)) = true := by simp; omega
      have cz := HZ.out k hlt
      go_wp2_with fail
      refine (clean1_any 0 _).mono ?_
      rintro e w1 ⟨rfl, rfl⟩
      go_wp2
      go_roundw
      case rel => exact ⟨k + 1, by omega, by go_num, trivial⟩
      case measure => simp [intOf]; omega
    · have d3 : decide ((k : Int) < (n : Int)) = false := by simp; omega
      go_wp2
      go_returns
      exact ⟨rfl, rfl⟩
theorem contains_zero (b o n c : Nat) (hn : n ≤ 1048576) (w : World) (hz : ∀ j, j < n → w.cell? ⟨b, o + j, none⟩ = some (.int .i64 0)) :
    Calls Try.prog 53 #[.slice (some ⟨b, o, none⟩) n c, .func (.func 54) #[] #[]] w fun e w' => e = .returned (.bool false) ∧ w = w' := by
  have C := Lib.hid (index_zero b o n c hn w hz)
  clear hz
  go_enter Try.func53, Try.ntmps53
  go_wp2_with fail
  refine C.out.mono ?_
  rintro e w1 ⟨rfl, rfl⟩
  go_wp2
  go_returns
  exact ⟨rfl, rfl⟩
def endAt (xs : List BN) : Nat → Nat
  | 0 => 0
  | k + 1 => (xs[k]?.map fun x => x.1 + x.2).getD 0
theorem WF.clean {S : PA} (h : WF S) {xs : List BN} (hp : xs.Perm (bns S.regs)) (hs : xs.Pairwise fun a b => byBase a b = true) (k : Nat) (p : BN) (hk : (xs ++ [(S.size, 0)])[k]? = some p) :
    endAt (xs ++ [(S.size, 0)]) k ≤ p.1 ∧ p.1 ≤ S.size ∧ p.2 ≤ S.size ∧ ∀ i, endAt (xs ++ [(S.size, 0)]) k ≤ i → i < p.1 → S.cells[i]? = some 0 := by
  have hmem : ∀ x, x ∈ xs → x.1 + x.2 ≤ S.size := fun x hx => by
    have := hp.mem_iff.1 hx
    simp only [bns, List.mem_map] at this
    obtain ⟨r, hr, rfl⟩ := this
    exact (h.pos r hr).2
  have hrise : (xs ++ [(S.size, 0)]).Pairwise fun (x y : BN) => x.1 + x.2 ≤ y.1 := by
    rw [List.pairwise_append]
    exact ⟨h.rows_rise hp hs, by simp, fun x hx y hy => by rw [List.mem_singleton] at hy; subst hy; exact hmem x hx⟩
  have hlt : ∀ (i j : Nat) (x y : BN), i < j → (xs ++ [(S.size, 0)])[i]? = some x → (xs ++ [(S.size, 0)])[j]? = some y → x.1 + x.2 ≤ y.1 := fun i j x y hij hx hy => by
    obtain ⟨hi, rfl⟩ := List.getElem?_eq_some_iff.1 hx
    obtain ⟨hj, rfl⟩ := List.getElem?_eq_some_iff.1 hy
    exact List.pairwise_iff_getElem.1 hrise i j hi hj hij
  have hpm : p.1 + p.2 ≤ S.size := by
    rcases List.mem_append.1 (List.mem_of_getElem? hk) with hm | hm
    · exact hmem p hm
    · rw [List.mem_singleton] at hm; subst hm; simp
  have hend : ∀ k' x, k = k' + 1 → (xs ++ [(S.size, 0)])[k']? = some x → endAt (xs ++ [(S.size, 0)]) k = x.1 + x.2 := fun k' x e hx => by subst e; show ((xs ++ [(S.size, 0)])[k']?.map fun x => x.1 + x.2).getD 0 = _; rw [hx]; rfl
  have hle : endAt (xs ++ [(S.size, 0)]) k ≤ p.1 := by
    cases hk' : k with
    | zero => exact Nat.zero_le _
    | succ k' =>
      have hkl : k' < (xs ++ [(S.size, 0)]).length := by have := (List.getElem?_eq_some_iff.1 hk).1; omega
      have e := List.getElem?_eq_getElem hkl
      rw [← hk', hend k' _ hk' e]
      exact hlt k' k _ p (by omega) e hk
  refine ⟨hle, by omega, by omega, fun i h1 h2 => h.zero i (by omega) fun r hr hin => ?_⟩
  have hx : (r.base, r.n) ∈ xs := hp.mem_iff.2 (List.mem_map.2 ⟨r, hr, rfl⟩)
  obtain ⟨j, hj, hje⟩ := List.getElem_of_mem hx
  have hj' : (xs ++ [(S.size, 0)])[j]? = some (r.base, r.n) := by rw [List.getElem?_append_left hj, List.getElem?_eq_getElem hj, hje]
  by_cases hjk : j < k
  · obtain ⟨k', rfl⟩ : ∃ k', k = k' + 1 := ⟨k - 1, by omega⟩
    have hkl : k' < (xs ++ [(S.size, 0)]).length := by have := (List.getElem?_eq_some_iff.1 hk).1; omega
    have e := List.getElem?_eq_getElem hkl
    rw [hend k' _ rfl e] at h1
    by_cases hjk' : j = k'
    · subst hjk'
      rw [hj'] at e
      injection e with e
      rw [← e] at h1
      simp only at h1
      omega
    · have := hlt j k' _ _ (by omega) hj' e
      simp only at this
      omega
  · by_cases hjk' : j = k
    · subst hjk'
      rw [hj'] at hk
      injection hk with hk
      rw [← hk] at h2
      simp only at h2
      omega
    · have := hlt k j _ _ (by omega) hk hj'
      simp only at this
      omega
theorem clean_nil (w : World) : Calls Try.prog 24 #[.pointer none] w fun e w' => e = .returned (.bool true) ∧ w = w' := by
  go_enter Try.func24, Try.ntmps24
  go_wp2
  go_returns
  exact ⟨rfl, rfl⟩
theorem bnCells_one (xs : List BN) (n : Nat) : bnCells xs ++ [.int .i64 (n : Int), .int .i64 0] = bnCells (xs ++ [(n, 0)]) := by simp [bnCells]
set_option maxRecDepth 100000 in
set_option maxHeartbeats 4000000 in
theorem clean_any {w : World} {f : Fp} {S : PA} (h : ArenaAt w f S) :
    Calls Try.prog 24 #[.pointer (some ⟨f.a, 0, none⟩)] w fun e w' => e = .returned (.bool true) ∧ Below w.heap.size w w' := by
  have hl : S.regs.length ≤ 1099511627776 := by
    have h1 : S.regs.length ≤ total S.regs := by
      have : ∀ (rs : List Reg), (∀ r, r ∈ rs → 1 ≤ r.n) → rs.length ≤ total rs := by
        intro rs
        induction rs with
        | nil => intro _; simp [total]
        | cons r rs ih => intro hr; have := ih fun x hx => hr x (List.mem_cons_of_mem _ hx); have := hr r List.mem_cons_self; simp [total] at *; omega
      exact this _ fun r hr => (h.wf.pos r hr).1
    have := total_le h.wf; have := h.wf.sz; omega
  have R := Lib.hid (fun wx (hb : Below w.heap.size w wx) => rows_any S.regs hl f.a f.m wx (h.below hb).c2 (h.below hb).bm)
  have H := Lib.hid h
  have hq := eqlA f.a w
  have hsz := h.wf.sz
  have HB0 : Hid (Below w.heap.size w w.drew) := below_drewN (Below.refl _ _) 1
  obtain ⟨i0, hi, hz0, hz1, hz2⟩ := info_parts infoR
  have hXL : Hid (∀ xs : List BN, xs.Perm (bns S.regs) → xs.length ≤ 1099511627776) := fun xs hp => by rw [hp.length_eq]; simpa [bns] using hl
  clear h
  go_enter Try.func24, Try.ntmps24
  go_wp2
  refine Code.wp_mono (Q := fun e a w5 => e = .normal ∧ ∃ (A : Option Addr) (c : Nat) (xs : List BN) (v9 v16 : Value) (B : Nat), a = ⟨#[.pointer (some ⟨f.a, 0, none⟩), undef, .bool false, .int .i64 0, undef, undef, .pointer (some ⟨f.a, 0, none⟩), .bool false,
    .pointer (some ⟨f.a, 0, none⟩), v9, .pointer (some ⟨f.a, 0, none⟩), .pointer (some ⟨f.a, 0, none⟩), .pointer (some ⟨f.a, 1, none⟩), .slice (some ⟨f.c, 0, none⟩) S.size S.size, .int .i64 (S.size : Int), .agg #[.int .i64 (S.size : Int), .int .i64 0], v16, .slice A (xs.length + 1) c, .int .i64 ((xs.length + 1 : Nat) : Int), .int .i64 0,
    undef, undef, undef, undef, undef, undef, undef, undef, undef, undef, undef, undef, undef, undef, undef, undef, undef, undef], []⟩ ∧
    xs.Perm (bns S.regs) ∧ (xs.Pairwise fun a b => byBase a b = true) ∧ w5.ownsRow B 82 2 (.slice A (xs.length + 1) c) (xs.length + 1) (bnCells (xs ++ [(S.size, 0)])) ∧ Below w.heap.size w w5) ?_ ?_
  · rintro e a w5 ⟨rfl, A, c, xs, v9, v16, B, rfl, hp, hs, hown, hb⟩
    have hXL2 := hXL.out xs hp
    have W := Lib.hid (fun k p hk => H.out.wf.clean hp hs k p hk)
    have hrow := RowAt.own hown
    have hlen : (xs ++ [(S.size, 0)]).length = xs.length + 1 := by simp
    have hzc := Lib.hid H.out.wf.len
    clear R hp hs hown HB0 hi hz0 hz1 hz2 hXL hl
    generalize xs ++ [(S.size, 0)] = ys at *
    generalize xs.length = nx at *
    go_wp2
    go_loopw [3, 5, 19] (fun v _ i wr => ∃ k : Nat, k ≤ nx + 1 ∧ i = .int .i64 (k : Int) ∧ v = .int .i64 (endAt ys k : Int) ∧ Below w5.heap.size w5 wr) (fun _ _ i _ => nx + 1 - (intOf i).toNat)
    case atStart => exact ⟨0, Nat.zero_le _, rfl, rfl, Below.refl _ _⟩
    case round =>
      obtain ⟨k, hk, rfl, rfl, hB⟩ := hrel
      by_cases hlt : k < nx + 1
      · have d3 : decide ((k : Int) < ((nx + 1 : Nat) : Int)) = true := by simp; omega
        have hkl : k < ys.length := by omega
        have hyk := List.getElem?_eq_getElem hkl
        obtain ⟨ad, rfl, _, e0, e1⟩ := row_bn (hrow.keep hB) hyk
        have hw := W.out k _ hyk
        have hnx : Hid (endAt ys (k + 1) = ys[k].1 + ys[k].2) := by show (ys[k]?.map fun x => x.1 + x.2).getD 0 = _; rw [hyk]; rfl
        clear hyk
        generalize endAt ys k = a at *
        generalize ys[k] = p at *
        obtain ⟨pb, pn⟩ := p
        simp only at e0 e1 hw hnx
        obtain ⟨hw1, hw2, hw4, hw3⟩ := hw
        have HW := Lib.hid hw3
        clear hw3 W
        have hB2 := below_seq hb hB hb.size
        have hBl := hB2.alloc hB2.size (.cells #[.int .i64 (pb : Int), .int .i64 (pn : Int)] 82)
        have hBr := hB.alloc hB.size (.cells #[.int .i64 (pb : Int), .int .i64 (pn : Int)] 82)
        have HL := Lib.hid (heap_alloc_new wr (.cells #[.int .i64 (pb : Int), .int .i64 (pn : Int)] 82))
        have H2 := Lib.hid (H.out.below hBl)
        have hBR := Lib.hid hBr
        clear hBl hBr
        go_wp2
        generalize hgl : wr.alloc (.cells #[.int .i64 (pb : Int), .int .i64 (pn : Int)] 82) = wl at *
        generalize wr.heap.size = L at *
        have c1 := H2.out.c1
        have l0 : wl.cell? ⟨L, 0, none⟩ = some (.int .i64 (pb : Int)) := cell_of_row _ _ 0 _ _ _ HL.out
        have l1 : wl.cell? ⟨L, 1, none⟩ = some (.int .i64 (pn : Int)) := cell_of_row _ _ 1 _ _ _ HL.out
        have CZ := Lib.hid (contains_zero f.c (if S.size = a then 0 else a) (pb - a) (S.size - a) (by omega) wl.drew (fun j hj => by
          rw [if_neg (by omega)]
          exact (cell_of_row wl.drew f.c (a + j) _ _ _ H2.out.bc).trans (iCells_get _ _ _ (HW.out (a + j) (by omega) (by omega)))))
        clear hgl e0 e1 hB2
        refine wp_region_noPanic ?_
        refine wp_region_held_drew (S := (fun w' => w' = wl.drew)) (by kernel_rfl) (rfl) (fun hH => ?_)
        refine wpAnyH_take (i := 0) (oi := ⟨some 23, _, _, _, _, _⟩) (v := .pointer (some ⟨f.a, 0, none⟩)) rfl (by kernel_rfl) (by kernel_rfl) (by kernel_rfl) (fun _ _ _ h => h) (Or.inl ⟨by rfl, fun wq hq => ?_⟩) hH ?_
        · go_simp
        simp only [Act.put, List.setIfInBounds_toArray, List.set_cons_zero, List.set_cons_succ]
        refine wpAnyH_take (i := 1) (oi := ⟨some 24, _, _, _, _, _⟩) (v := .pointer (some ⟨f.a, 0, none⟩)) rfl (by kernel_rfl) (by kernel_rfl) (by kernel_rfl) (fun _ _ _ h => h) (Or.inl ⟨by rfl, fun wq hq => ?_⟩) hH ?_
        · go_simp
        simp only [Act.put, List.setIfInBounds_toArray, List.set_cons_zero, List.set_cons_succ]
        refine wpAnyH_take (i := 2) (oi := ⟨some 25, _, _, _, _, _⟩) (v := .pointer (some ⟨f.a, 1, none⟩)) rfl (by kernel_rfl) (by kernel_rfl) (by kernel_rfl) (fun _ _ _ h => h) (Or.inl ⟨by rfl, fun wq hq => ?_⟩) hH ?_
        · go_simp
        simp only [Act.put, List.setIfInBounds_toArray, List.set_cons_zero, List.set_cons_succ]
        refine wpAnyH_take (i := 3) (oi := ⟨some 26, _, _, _, _, _⟩) (v := .slice (some ⟨f.c, 0, none⟩) S.size S.size) rfl (by kernel_rfl) (by kernel_rfl) (by kernel_rfl) (fun _ _ _ h => h) (Or.inl ⟨by rfl, fun wq hq => ?_⟩) hH ?_
        · subst hq; go_simp
        simp only [Act.put, List.setIfInBounds_toArray, List.set_cons_zero, List.set_cons_succ]
        refine wpAnyH_take (i := 4) (oi := ⟨some 27, _, _, _, _, _⟩) (v := .int .i64 (a : Int)) rfl (by kernel_rfl) (by kernel_rfl) (by kernel_rfl) (fun _ _ _ h => h) (Or.inl ⟨by rfl, fun wq hq => ?_⟩) hH ?_
        · go_simp
        simp only [Act.put, List.setIfInBounds_toArray, List.set_cons_zero, List.set_cons_succ]
        refine wpAnyH_take (i := 5) (oi := ⟨some 28, _, _, _, _, _⟩) (v := .pointer (some ⟨L, 0, none⟩)) rfl (by kernel_rfl) (by kernel_rfl) (by kernel_rfl) (fun _ _ _ h => h) (Or.inl ⟨by rfl, fun wq hq => ?_⟩) hH ?_
        · go_simp
        simp only [Act.put, List.setIfInBounds_toArray, List.set_cons_zero, List.set_cons_succ]
        refine wpAnyH_take (i := 6) (oi := ⟨some 29, _, _, _, _, _⟩) (v := .int .i64 (pb : Int)) rfl (by kernel_rfl) (by kernel_rfl) (by kernel_rfl) (fun _ _ _ h => h) (Or.inl ⟨by rfl, fun wq hq => ?_⟩) hH ?_
        · subst hq; go_simp
        simp only [Act.put, List.setIfInBounds_toArray, List.set_cons_zero, List.set_cons_succ]
        refine wpAnyH_take (i := 7) (oi := ⟨some 30, _, _, _, _, _⟩) (v := .slice (some ⟨f.c, if S.size = a then 0 else a, none⟩) (pb - a) (S.size - a)) rfl (by kernel_rfl) (by kernel_rfl) (by kernel_rfl) (fun _ _ _ h => h) (Or.inl ⟨by rfl, fun wq hq => ?_⟩) hH ?_
        · go_simp; split <;> rfl
        simp only [Act.put, List.setIfInBounds_toArray, List.set_cons_zero, List.set_cons_succ]
        refine wpAnyH_ready (rs := [8]) (by kernel_rfl) (by simp) (AllReadyH.cons (o := ⟨some 31, .call { callee := .value (.func 53), args := #[.tmp 30, .func 54], argTypes := #[41, 80] }, _, _, _, _⟩) rfl (fun K hK => ?_) AllReadyH.nil)
        rw [if_pos (by rfl)]
        refine wp_call 53 _ _ rfl #[.slice (some ⟨f.c, if S.size = a then 0 else a, none⟩) (pb - a) (S.size - a), .func (.func 54) #[] #[]] (by simp only [List.map_toArray, List.map_cons, List.map_nil]; rfl) (by kernel_rfl) (R := fun v w' => v = .bool false ∧ w' = wl.drew) (CZ.out.mono (by rintro e w' ⟨rfl, rfl⟩; exact ⟨_, rfl, rfl, rfl⟩)) ?_
        rintro v w6 ⟨rfl, rfl⟩
        refine hK.out _ _ (rfl) (fun hHn => ?_)
        replace hH := hHn
        clear hK K hHn
        simp only [Act.put, List.setIfInBounds_toArray, List.set_cons_zero, List.set_cons_succ]
        refine wpAnyH_done (by kernel_rfl) ?_ _
        refine NoPanic.normal ?_
        have hBd : Below w5.heap.size w5 wl.drew := below_drewN hBR.out 1
        have l0' : wl.drew.cell? ⟨L, 0, none⟩ = some (.int .i64 (pb : Int)) := l0
        have l1' : wl.drew.cell? ⟨L, 1, none⟩ = some (.int .i64 (pn : Int)) := l1
        clear hH c1 l0 l1 CZ H2 HL
        go_wp2
        go_roundw
        case rel => exact ⟨k + 1, by omega, by go_num, by rw [hnx.out]; go_num, hBd⟩
        case measure => simp [intOf]; omega
      · have d3 : decide ((k : Int) < ((nx + 1 : Nat) : Int)) = false := by simp; omega
        have hB2 := below_seq hb hB hb.size
        go_wp2
        go_returns
        exact ⟨rfl, hB2⟩
  refine wp_region_noPanic ?_
  refine wp_region_held_drew (S := (fun w' => Below w.heap.size w w')) (by kernel_rfl) (HB0.out) (fun hH => ?_)
  refine wpAnyH_take (i := 0) (oi := ⟨some 8, _, _, _, _, _⟩) (v := .pointer (some ⟨f.a, 0, none⟩)) rfl (by kernel_rfl) (by kernel_rfl) (by kernel_rfl) (fun _ _ _ h => h) (Or.inl ⟨by rfl, fun wq hq => ?_⟩) hH ?_
  · go_simp
  simp only [Act.put, List.setIfInBounds_toArray, List.set_cons_zero, List.set_cons_succ]
  refine wpAnyH_take (i := 2) (oi := ⟨some 10, _, _, _, _, _⟩) (v := .pointer (some ⟨f.a, 0, none⟩)) rfl (by kernel_rfl) (by kernel_rfl) (by kernel_rfl) (fun _ _ _ h => h) (Or.inl ⟨by rfl, fun wq hq => ?_⟩) hH ?_
  · go_simp
  simp only [Act.put, List.setIfInBounds_toArray, List.set_cons_zero, List.set_cons_succ]
  refine wpAnyH_take (i := 3) (oi := ⟨some 11, _, _, _, _, _⟩) (v := .pointer (some ⟨f.a, 0, none⟩)) rfl (by kernel_rfl) (by kernel_rfl) (by kernel_rfl) (fun _ _ _ h => h) (Or.inl ⟨by rfl, fun wq hq => ?_⟩) hH ?_
  · go_simp
  simp only [Act.put, List.setIfInBounds_toArray, List.set_cons_zero, List.set_cons_succ]
  refine wpAnyH_take (i := 4) (oi := ⟨some 12, _, _, _, _, _⟩) (v := .pointer (some ⟨f.a, 1, none⟩)) rfl (by kernel_rfl) (by kernel_rfl) (by kernel_rfl) (fun _ _ _ h => h) (Or.inl ⟨by rfl, fun wq hq => ?_⟩) hH ?_
  · go_simp
  simp only [Act.put, List.setIfInBounds_toArray, List.set_cons_zero, List.set_cons_succ]
  refine wpAnyH_take (i := 5) (oi := ⟨some 13, _, _, _, _, _⟩) (v := .slice (some ⟨f.c, 0, none⟩) S.size S.size) rfl (by kernel_rfl) (by kernel_rfl) (by kernel_rfl) (fun _ _ _ h => h) (Or.inl ⟨by rfl, fun wq hq => ?_⟩) hH ?_
  · have q1 := (H.out.below hq).c1; go_simp
  simp only [Act.put, List.setIfInBounds_toArray, List.set_cons_zero, List.set_cons_succ]
  refine wpAnyH_take (i := 6) (oi := ⟨some 14, _, _, _, _, _⟩) (v := .int .i64 (S.size : Int)) rfl (by kernel_rfl) (by kernel_rfl) (by kernel_rfl) (fun _ _ _ h => h) (Or.inl ⟨by rfl, fun wq hq => ?_⟩) hH ?_
  · go_simp
  simp only [Act.put, List.setIfInBounds_toArray, List.set_cons_zero, List.set_cons_succ]
  refine wpAnyH_take (i := 7) (oi := ⟨some 15, _, _, _, _, _⟩) (v := .agg #[.int .i64 (S.size : Int), .int .i64 0]) rfl (by kernel_rfl) (by kernel_rfl) (by kernel_rfl) (fun _ _ _ h => h) (Or.inl ⟨by rfl, fun wq hq => ?_⟩) hH ?_
  · go_simp
  simp only [Act.put, List.setIfInBounds_toArray, List.set_cons_zero, List.set_cons_succ]
  refine wpAnyH_take (i := 11) (oi := ⟨some 19, _, _, _, _, _⟩) (v := .int .i64 0) rfl (by kernel_rfl) (by kernel_rfl) (by kernel_rfl) (fun _ _ _ h => h) (Or.inl ⟨by rfl, fun wq hq => ?_⟩) hH ?_
  · go_simp
  simp only [Act.put, List.setIfInBounds_toArray, List.set_cons_zero, List.set_cons_succ]
  refine wpAnyH_ready (rs := [1, 8]) (by kernel_rfl) (by simp) (AllReadyH.cons (o := ⟨some 9, .call { callee := .value (.func 52), args := #[.tmp 8], argTypes := #[25] }, _, _, _, _⟩) rfl (fun K hK => ?_) (AllReadyH.cons (o := ⟨some 16, .buildSlice 89 1 #[(0, .tmp 15)], _, _, _, _⟩) rfl (fun K hK => ?_) AllReadyH.nil))
  · rw [if_pos (by rfl)]
    refine wp_call 52 _ _ rfl #[.pointer (some ⟨f.a, 0, none⟩)] (by simp only [List.map_toArray, List.map_cons, List.map_nil]; rfl) (by kernel_rfl) (R := fun v w' => RowsPost S.regs _ (.returned v) w') ((R.out _ (HB0.out)).mono (by rintro e w' ⟨A, c, xs, rfl, h⟩; exact ⟨_, rfl, A, c, xs, rfl, h⟩)) ?_
    rintro v1 w1 ⟨A, c, xs, hv, hp, hs, hown, hb1⟩
    injection hv with hv; subst hv
    have hB1 : Below w.heap.size w w1 := below_seq HB0.out hb1 HB0.out.size
    refine hK.out _ _ (hB1) (fun hHn => ?_)
    replace hH := hHn
    clear hK K hHn
    simp only [Act.put, List.setIfInBounds_toArray, List.set_cons_zero, List.set_cons_succ]
    refine wpAnyH_ready (rs := [8]) (by kernel_rfl) (by simp) (AllReadyH.cons (o := ⟨some 16, .buildSlice 89 1 #[(0, .tmp 15)], _, _, _, _⟩) rfl (fun K hK => ?_) AllReadyH.nil)
    rw [if_pos (by rfl)]
    refine wp_buildSlice 89 82 1 _ rfl #[.int .i64 (S.size : Int), .int .i64 0] i0 (.agg #[.int .i64 0, .int .i64 0]) Try.underlying89 hi hz0 (by rw [hz1]; decide) (by rw [hz1]; decide) (by rw [hz1]; exact fill_one _ (by simp only [List.map_toArray, List.map_cons, List.map_nil]; rfl)) ?_
    have hown2 := own_below hown ((Below.refl _ _).alloc (Nat.le_refl _) (.cells #[.int .i64 (S.size : Int), .int .i64 0] 82))
    have hB2 : Below w.heap.size w (w1.alloc (.cells #[.int .i64 (S.size : Int), .int .i64 0] 82)) := hB1.alloc hB1.size _
    have hc2 := heap_alloc_new w1 (.cells #[.int .i64 (S.size : Int), .int .i64 0] 82)
    refine hK.out _ _ (hB2) (fun hHn => ?_)
    replace hH := hHn
    clear hK K hHn
    simp only [Act.put, List.setIfInBounds_toArray, List.set_cons_zero, List.set_cons_succ]
    refine wpAnyH_ready (rs := [9]) (by kernel_rfl) (by simp) (AllReadyH.cons (o := ⟨some 17, .call { callee := .builtin .append, args := #[.tmp 9, .tmp 16], argTypes := #[89, 89] }, _, _, _, _⟩) rfl (fun K hK => ?_) AllReadyH.nil)
    rw [if_pos (by rfl)]
    refine wp_append_row (.tmp 9) (.tmp 16) 89 rfl _ 82 i0 (.agg #[.int .i64 0, .int .i64 0]) 2 16 Try.underlying89 hi hz0 hz1 hz2 rfl (by decide) _ _ _ rfl hown2 0 (w1.heap.size + 1) (some ⟨w1.heap.size, 0, none⟩) 1 1 [.int .i64 (S.size : Int), .int .i64 0] rfl rfl (fun j u hu => by
      have e : (⟨w1.heap.size, 0, none⟩ : Addr).add j = ⟨w1.heap.size, j, none⟩ := by unfold Addr.add; split <;> simp_all
      exact ⟨_, rfl, Nat.zero_le _, Nat.lt_succ_self _, by rw [e, cell_of_row _ _ j _ _ _ (hc2)]; simpa using hu⟩) (by simp [Value.oneCell']) (by have := hXL.out xs hp; simp only [maxLen]; omega) (by have := hXL.out xs hp; omega) (hB2.size) ?_
    intro v4 w4 hown4 hg4 _
    have hb4 : Below w.heap.size w w4 := (hB2).grown hg4 (hB2).size (fun k hk => Nat.le_trans HB0.out.size (own_row hown2 k hk))
    obtain ⟨A', c', rfl⟩ := own_slice hown4
    rw [bnCells_one] at hown4
    refine hK.out _ _ (hb4) (fun hHn => ?_)
    replace hH := hHn
    clear hK K hHn
    simp only [Act.put, List.setIfInBounds_toArray, List.set_cons_zero, List.set_cons_succ]
    refine wpAnyH_take (i := 10) (oi := ⟨some 18, _, _, _, _, _⟩) (v := .int .i64 ((xs.length + 1 : Nat) : Int)) rfl (by kernel_rfl) (by kernel_rfl) (by kernel_rfl) (fun _ _ _ h => h) (Or.inl ⟨by rfl, fun wq hq => ?_⟩) hH ?_
    · go_simp
    simp only [Act.put, List.setIfInBounds_toArray, List.set_cons_zero, List.set_cons_succ]
    refine wpAnyH_done (by kernel_rfl) ?_ _
    exact NoPanic.normal ⟨rfl, A', c', xs, _, _, _, rfl, hp, hs, hown4, hb4⟩
  · rw [if_pos (by rfl)]
    refine wp_buildSlice 89 82 1 _ rfl #[.int .i64 (S.size : Int), .int .i64 0] i0 (.agg #[.int .i64 0, .int .i64 0]) Try.underlying89 hi hz0 (by rw [hz1]; decide) (by rw [hz1]; decide) (by rw [hz1]; exact fill_one _ (by simp only [List.map_toArray, List.map_cons, List.map_nil]; rfl)) ?_
    have hB1 : Below w.heap.size w (w.drew.alloc (.cells #[.int .i64 (S.size : Int), .int .i64 0] 82)) := HB0.out.alloc HB0.out.size _
    have hc1 := heap_alloc_new w.drew (.cells #[.int .i64 (S.size : Int), .int .i64 0] 82)
    refine hK.out _ _ (hB1) (fun hHn => ?_)
    replace hH := hHn
    clear hK K hHn
    simp only [Act.put, List.setIfInBounds_toArray, List.set_cons_zero, List.set_cons_succ]
    refine wpAnyH_ready (rs := [1]) (by kernel_rfl) (by simp) (AllReadyH.cons (o := ⟨some 9, .call { callee := .value (.func 52), args := #[.tmp 8], argTypes := #[25] }, _, _, _, _⟩) rfl (fun K hK => ?_) AllReadyH.nil)
    rw [if_pos (by rfl)]
    refine wp_call 52 _ _ rfl #[.pointer (some ⟨f.a, 0, none⟩)] (by simp only [List.map_toArray, List.map_cons, List.map_nil]; rfl) (by kernel_rfl) (R := fun v w' => RowsPost S.regs _ (.returned v) w') ((R.out _ (hB1)).mono (by rintro e w' ⟨A, c, xs, rfl, h⟩; exact ⟨_, rfl, A, c, xs, rfl, h⟩)) ?_
    rintro v1 w2 ⟨A, c, xs, hv, hp, hs, hown, hb1⟩
    injection hv with hv; subst hv
    have hB2 : Below w.heap.size w w2 := below_seq hB1 hb1 hB1.size
    have hc2 := blk_below hc1 hb1
    refine hK.out _ _ (hB2) (fun hHn => ?_)
    replace hH := hHn
    clear hK K hHn
    simp only [Act.put, List.setIfInBounds_toArray, List.set_cons_zero, List.set_cons_succ]
    refine wpAnyH_ready (rs := [9]) (by kernel_rfl) (by simp) (AllReadyH.cons (o := ⟨some 17, .call { callee := .builtin .append, args := #[.tmp 9, .tmp 16], argTypes := #[89, 89] }, _, _, _, _⟩) rfl (fun K hK => ?_) AllReadyH.nil)
    rw [if_pos (by rfl)]
    refine wp_append_row (.tmp 9) (.tmp 16) 89 rfl _ 82 i0 (.agg #[.int .i64 0, .int .i64 0]) 2 16 Try.underlying89 hi hz0 hz1 hz2 rfl (by decide) _ _ _ rfl hown 0 (w.drew.heap.size + 1) (some ⟨w.drew.heap.size, 0, none⟩) 1 1 [.int .i64 (S.size : Int), .int .i64 0] rfl rfl (fun j u hu => by
      have e : (⟨w.drew.heap.size, 0, none⟩ : Addr).add j = ⟨w.drew.heap.size, j, none⟩ := by unfold Addr.add; split <;> simp_all
      exact ⟨_, rfl, Nat.zero_le _, Nat.lt_succ_self _, by rw [e, cell_of_row _ _ j _ _ _ (hc2)]; simpa using hu⟩) (by simp [Value.oneCell']) (by have := hXL.out xs hp; simp only [maxLen]; omega) (by have := hXL.out xs hp; omega) (hb1.size) ?_
    intro v4 w4 hown4 hg4 _
    have hb4 : Below w.heap.size w w4 := (hB2).grown hg4 (hB2).size (fun k hk => Nat.le_trans hB1.size (own_row hown k hk))
    obtain ⟨A', c', rfl⟩ := own_slice hown4
    rw [bnCells_one] at hown4
    refine hK.out _ _ (hb4) (fun hHn => ?_)
    replace hH := hHn
    clear hK K hHn
    simp only [Act.put, List.setIfInBounds_toArray, List.set_cons_zero, List.set_cons_succ]
    refine wpAnyH_take (i := 10) (oi := ⟨some 18, _, _, _, _, _⟩) (v := .int .i64 ((xs.length + 1 : Nat) : Int)) rfl (by kernel_rfl) (by kernel_rfl) (by kernel_rfl) (fun _ _ _ h => h) (Or.inl ⟨by rfl, fun wq hq => ?_⟩) hH ?_
    · go_simp
    simp only [Act.put, List.setIfInBounds_toArray, List.set_cons_zero, List.set_cons_succ]
    refine wpAnyH_done (by kernel_rfl) ?_ _
    exact NoPanic.normal ⟨rfl, A', c', xs, _, _, _, rfl, hp, hs, hown4, hb4⟩
end Go.Proofs.Ytdjmjdfkblhgdaa
