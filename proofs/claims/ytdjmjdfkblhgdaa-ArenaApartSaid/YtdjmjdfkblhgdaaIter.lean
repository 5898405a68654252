/- The regions of an arena in a row: the iterator over a map's values, what is collected out of it, and that row sorted by where the regions lie. -/
import Derived.Test.YtdjmjdfkblhgdaaMapz
import Derived.Test.YtdjmjdfkblhgdaaArPlain
import Derived.Test.YtdjmjdfkblhgdaaProg
import Derived.RangeFuncNested
import Derived.RangeFuncBox
import Derived.RangeFuncLeaves
import Derived.OwnWalkIn
import Derived.TacticsInMore
import Derived.Sort.MapsRangeIn
import Derived.LoopNIn
import Derived.LoopIn
import Derived.Shelf.Abstract
namespace Go.Proofs.Ytdjmjdfkblhgdaa
open Go.RowKit Go.Maps Go.ChangeMaps Go.Shelf
attribute [local go_sem] Oper.semAt_some

section
variable {κ : Type} {enc : κ → Value} {w w1 : World} {b : Nat} {l : List (κ × Value)} {P : Program} {ops : Array Oper} {rest : List Oper} {o : Oper} {a : Act} {Q : Exit → Act → World → Prop} {F : Fence} {n : Nat}
theorem wpListIn_rangeZ (hgd : o.guard = none) (m : Operand) (T : TypeId) (hop : o.op = .range T m) (K E : TypeId) (hT : P.underlying T = some (.map K E)) (hm : a.eval m = .map (some b)) (h : MapZ enc w b l)
    (hK' : ∀ ob, IterZ enc (w.alloc ob) w.heap.size b l [] l → wpListIn F n P ops Q rest (a.put o.dst (.pointer (some ⟨w.heap.size, 0, none⟩))) (w.alloc ob)) : wpListIn F n P ops Q (o :: rest) a w := by
  refine wpListIn_plain hgd fun K' hKK => ?_
  obtain ⟨ob, hr, h1⟩ := run_rangeZ (P := P) h T K E hT
  unfold Oper.wpIn
  refine ⟨by simp [Oper.about, hop], ?_⟩
  rw [Oper.semAt_plain F _ _ (by rw [hop]; intro c hc'; cases hc')]
  simp [execOp, hop, hm, hr, Result.andThen]
  exact hKK _ _ (hK' ob h1)
theorem wpListIn_nextZ (hgd : o.guard = none) (x : Operand) (hop : o.op = .next x false) {it : Nat} {dn left : List (κ × Value)} (hx : a.eval x = .pointer (some ⟨it, 0, none⟩)) (h : IterZ enc w it b l dn left)
    (hDone : left = [] → wpListIn F n P ops Q rest (a.put o.dst (.tuple #[.bool false])) w)
    (hMore : ∀ (i : Nat) (p : κ × Value) (w' : World), left[i]? = some p → IterZ enc w' it b l (dn ++ [p]) (left.eraseIdx i) → w.grownBy w' (some it) → w'.heap.size = w.heap.size →
      (Instr.entry (.pointer (some ⟨it, 0, none⟩))).run P w' = .ok (.tuple #[enc p.1, p.2]) w' → wpListIn F n P ops Q rest (a.put o.dst (.tuple #[.bool true, enc p.1, p.2])) w') : wpListIn F n P ops Q (o :: rest) a w := by
  refine wpListIn_plain hgd fun K' hKK => ?_
  unfold Oper.wpIn
  refine ⟨by simp [Oper.about, hop], ?_⟩
  rw [Oper.semAt_plain F _ _ (by rw [hop]; intro c hc'; cases hc')]
  rcases run_nextZ (P := P) h o.type with ⟨h0, hr⟩ | ⟨i, p, w', hp, hr, h1, h2, h3, h4⟩
  · simp [execOp, hop, hx, hr, Result.andThen]
    exact hKK _ _ (hDone h0)
  · simp [execOp, hop, hx, hr, Result.andThen]
    exact hKK _ _ (hMore i p w' hp h1 h2 h3 h4)
theorem IterZ.walks {it : Nat} {dn left : List (κ × Value)} (h : IterZ enc w it b l dn left) (hk : KeepsWalks w w1) : IterZ enc w1 it b l dn left := by
  obtain ⟨es, clock, since, seen, c0, h1, h2, h3, h4, r⟩ := h
  exact ⟨es, clock, since, seen, c0, hk.same b _ h1 rfl, h2, h3, hk.same it _ h4 rfl, r⟩
theorem IterZ.iter_walk {it : Nat} {dn left : List (κ × Value)} (h : IterZ enc w it b l dn left) : ∃ o : Obj, w.heap[it]? = some o ∧ o.isWalk = true := by
  obtain ⟨es, clock, since, seen, c0, h1, h2, h3, h4, r⟩ := h
  exact ⟨_, h4, rfl⟩
theorem IterZ.left_eq {it : Nat} {dn left : List (κ × Value)} (h : IterZ enc w it b l dn left) : w.rangeLeft b it = left.length := by
  obtain ⟨es, clock, since, seen, c0, h1, h2, h3, h4, _, _, _, h5, _⟩ := h
  unfold World.rangeLeft
  rw [h1, h4]
  have := congrArg List.length h5
  simpa using this
theorem IterZ.alloc {it : Nat} {dn left : List (κ × Value)} (h : IterZ enc w it b l dn left) (o : Obj) : IterZ enc (w.alloc o) it b l dn left := h.below ((Below.refl _ _).alloc (Nat.le_refl _) _)
end
def regVal (x : BN) : Value := .agg #[.int .i64 (x.1 : Int), .int .i64 (x.2 : Int)]
def regMap (rs : List Reg) : List (Int × Value) := rs.map fun r => ((r.id : Int), regVal (r.base, r.n))
def bnCells (xs : List BN) : List Value := xs.flatMap fun x => [.int .i64 (x.1 : Int), .int .i64 (x.2 : Int)]
theorem bnCells_length (xs : List BN) : (bnCells xs).length = xs.length * 2 := by
  induction xs with
  | nil => rfl
  | cons x xs ih => show ([_, _] ++ bnCells xs).length = _; rw [List.length_append, ih, List.length_cons]; simp; omega
theorem bnCells_append (xs ys : List BN) : bnCells (xs ++ ys) = bnCells xs ++ bnCells ys := by simp [bnCells]
theorem underR : Try.prog.underlying 77 = some (.map 3 82) := by kernel_rfl
theorem infoR : (Try.prog.info? 82).map (fun i => (i.zero, i.size, i.bytes)) = some (some (.agg #[.int .i64 0, .int .i64 0]), 2, 16) := by kernel_rfl
theorem regVal_of {rs : List Reg} {p : Int × Value} (h : p ∈ regMap rs) : ∃ x : BN, x ∈ bns rs ∧ p.2 = regVal x := by
  obtain ⟨r, hr, rfl⟩ := List.mem_map.1 h
  exact ⟨(r.base, r.n), List.mem_map.2 ⟨r, hr, rfl⟩, rfl⟩
theorem regVal_inj {a b : BN} (h : regVal a = regVal b) : a = b := by
  unfold regVal at h
  simp only [Value.agg.injEq, Array.mk.injEq, List.cons.injEq, Value.int.injEq, true_and, and_true] at h
  exact Prod.ext (by omega) (by omega)
open Classical in
theorem perm_of_map {α β : Type} [Inhabited α] {f : α → β} (hf : ∀ a b, f a = f b → a = b) {l m : List α} (h : (l.map f).Perm (m.map f)) : l.Perm m := by
  have inv : ∀ x, (fun v : β => if h : ∃ x, f x = v then Classical.choose h else default) (f x) = x := fun x => by
    have hx : ∃ y, f y = f x := ⟨x, rfl⟩
    simp only [hx, dif_pos]
    exact hf _ _ (Classical.choose_spec hx)
  have h2 := h.map (fun v : β => if h : ∃ x, f x = v then Classical.choose h else default)
  rw [List.map_map, List.map_map] at h2
  rw [show (fun v : β => if h : ∃ x, f x = v then Classical.choose h else default) ∘ f = id from funext inv, List.map_id, List.map_id] at h2
  exact h2
/-- What has come as values is what has come. -/
theorem came_all {rs : List Reg} {dn : List (Int × Value)} {xs : List BN} (hp : dn.Perm (regMap rs)) (hx : dn.map (·.2) = xs.map regVal) : xs.Perm (bns rs) := by
  have h1 : (dn.map (·.2)).Perm ((regMap rs).map (·.2)) := hp.map _
  rw [hx, show (regMap rs).map (·.2) = (bns rs).map regVal by simp [regMap, bns]] at h1
  exact perm_of_map (fun _ _ => regVal_inj) h1
set_option maxRecDepth 100000 in
set_option maxHeartbeats 1000000 in
theorem values1_in (F : Fence) (n : Nat) (h85 : F.fn 85) (hro : F.round = none) (hn : 1 ≤ n) (l Bm b : Nat) (rs : List Reg) (J Jx : List BN → World → Prop)
    (hY : ∀ pre x W, J pre W → pre.length < rs.length → YieldAt F (n - 1) Try.prog l #[regVal x] W fun e W' =>
      (e = .returned (.bool true) ∧ J (pre ++ [x]) W' ∧ KeepsWalks W W') ∨ (e = .returned (.bool false) ∧ Jx (pre ++ [x]) W'))
    (W : World) (hJ : AbidesFrom W.heap.size J) (hm : W.cell? ⟨Bm, 0, none⟩ = some (.map (some b))) (hmap : MapZ (Value.int .i64) W b (regMap rs)) (h0 : J [] W) :
    CallsIn F n Try.prog 85 #[.func (.yield l) #[] #[], .pointer (some ⟨Bm, 0, none⟩)] W fun e W' => (∃ v, e = .returned v) ∧
      ((∃ xs, xs.Perm (bns rs) ∧ J xs W') ∨ (∃ pre, True ∧ Jx pre W')) := by
  refine callsIn_of_wp Try.func85 rfl h85 ?_ hro
  simp only [Try.ntmps85, List.size_toArray, List.length_cons, List.length_nil, Nat.reduceAdd, Nat.reduceSub, Array.replicate_succ, Array.replicate_zero, List.push_toArray, List.append_toArray, List.nil_append, List.cons_append]
  gi_wp2_with (first
    | (gi_at_range; refine wpListIn_rangeZ rfl _ 77 rfl _ _ underR rfl hmap ?_; intro ob hit)
    | gi_in)
  have hJ0 : J [] (W.alloc ob) := hJ [] W _ none h0 (World.grownBy_alloc W ob none) (fun r e => by cases e)
  go_frame
  gi_loopw [4] (fun _ wr => ∃ (dn left : List (Int × Value)) (xs : List BN), IterZ (Value.int .i64) wr W.heap.size b (regMap rs) dn left ∧ dn.map (·.2) = xs.map regVal ∧ J xs wr)
    (fun _ wr => wr.rangeLeft b W.heap.size)
  case atStart =>
    exact ⟨[], _, [], hit, rfl, hJ0⟩
  case round =>
    obtain ⟨dn, left, xs, hI, hx, hJs⟩ := hrel
    gi_wp2_with (first
      | (gi_at_next; refine wpListIn_nextZ rfl _ rfl rfl hI ?_ ?_)
      | gi_in)
    · intro hl
      subst hl
      gi_wp2
      go_end0
      refine ⟨⟨_, rfl⟩, .inl ⟨xs, came_all ?_ hx, hJs⟩⟩
      obtain ⟨_, _, _, _, _, _, _, _, _, _, _, _, _, hp⟩ := hI
      simpa using hp
    · intro i pk pv w2 hp hI2 hg2 hs2 hen
      obtain ⟨p, hpe⟩ : ∃ p : Int × Value, p = (pk, pv) := ⟨_, rfl⟩
      rw [← hpe] at hp hI2
      obtain rfl : pk = p.1 := by rw [hpe]
      obtain rfl : pv = p.2 := by rw [hpe]
      clear hpe
      have hpm : p ∈ regMap rs := by
        obtain ⟨_, _, _, _, _, _, _, _, _, _, _, _, _, hperm⟩ := hI
        exact hperm.mem_iff.1 (List.mem_append_right _ (List.mem_of_getElem? hp))
      obtain ⟨x, hxr, hpx⟩ := regVal_of hpm
      have hil := (List.getElem?_eq_some_iff.1 hp).1
      have hlen : dn.length + left.length = rs.length := by
        obtain ⟨_, _, _, _, _, _, _, _, _, _, _, _, _, hperm⟩ := hI
        have := hperm.length_eq; simpa [regMap] using this
      have hdx : dn.length = xs.length := by have := congrArg List.length hx; simpa using this
      have hJ2 : J xs w2 := hJ _ wr w2 (some W.heap.size) hJs hg2 (fun r e => by cases e; exact ⟨Nat.le_refl _, hI.iter_walk⟩)
      have hJ3 : J xs (w2.alloc (.cells #[.int .i64 (x.1 : Int), .int .i64 (x.2 : Int)] 82)) := hJ xs w2 _ none hJ2 (World.grownBy_alloc w2 _ none) (fun r e => by cases e)
      obtain ⟨fn, tmps, assign, body, hy, hR⟩ := hY xs x _ hJ3 (by omega)
      unfold regVal at hpx
      rw [hpx] at hen
      rw [hpx]
      have hI3 := hI2.alloc (.cells #[.int .i64 (x.1 : Int), .int .i64 (x.2 : Int)] 82)
      dsimp only [regVal] at hy
      have hM : (left.eraseIdx i).length < left.length := by rw [List.length_eraseIdx]; split <;> omega
      have hxs : (dn ++ [p]).map (·.2) = (xs ++ [x]).map regVal := by rw [List.map_append, List.map_append, hx]; simp [hpx, regVal]
      have HM := Lib.hid hM
      have HX := Lib.hid hxs
      have HL := Lib.hid hI.left_eq
      clear hs2 hlen hdx hil hM hxs hI hpx hp hx hJs hJ2
      gi_wp2
      refine hR.mono ?_
      rintro e W3 (⟨rfl, hJ4, hk3⟩ | ⟨rfl, hJx3⟩)
      · gi_wp2
        have hI4 := hI3.walks hk3
        go_roundw
        case rel => exact ⟨dn ++ [p], left.eraseIdx i, xs ++ [x], hI4, HX.out, hJ4⟩
        case measure => rw [hI4.left_eq, HL.out]; exact HM.out
      · gi_wp2
        refine bodyPost_ret (results_none rfl _ _ _) rfl ?_
        exact ⟨⟨_, rfl⟩, .inr ⟨xs ++ [x], trivial, hJx3⟩⟩
theorem values_stops (F : Fence) (n : Nat) (h85 : F.fn 85) (hro : F.round = none) (hn : 1 ≤ n) (Bm b : Nat) (rs : List Reg) (w : World) (hBm : Bm < w.heap.size)
    (hm : w.cell? ⟨Bm, 0, none⟩ = some (.map (some b))) (hmap : MapZ (Value.int .i64) w b (regMap rs)) :
    SeqStopsK F n Try.prog 85 #[.pointer (some ⟨Bm, 0, none⟩)] (fun x : BN => #[regVal x]) KeepsWalks (fun xs => xs.Perm (bns rs)) (fun _ => True) rs.length w := fun l J Jx W hW hJ _ hY h0 =>
  values1_in F n h85 hro hn l Bm b rs J Jx hY W hJ ((hW.cell (p := ⟨Bm, 0, none⟩) hBm).trans hm) (hmap.below hW) h0
set_option maxRecDepth 100000 in
set_option maxHeartbeats 2000000 in
theorem appendSeq_in (F : Fence) (n : Nat) (h89 : F.fn 89) (hro : F.round = none) (hn : 3 ≤ n) (gf : Nat) (lb : Array Value) (hFg : F.fn gf) (eg : ∀ args w, (callFunc gf args).run Try.prog w = .ok (.enter gf args) w)
    (S : List BN → Prop) (N : Nat) (hN : N ≤ 1099511627776) (w : World) (hseq : SeqStopsK F (n - 1) Try.prog gf lb (fun x : BN => #[regVal x]) KeepsWalks S (fun _ => True) N w) :
    CallsIn F n Try.prog 89 #[.slice none 0 0, .func (.func gf) #[] lb] w fun e W' => ∃ (v : Value) (xs : List BN), e = .returned v ∧ S xs ∧ W'.ownsRow w.heap.size 82 2 v xs.length (bnCells xs) ∧ Below w.heap.size w W' := by
  have h1 : 1 ≤ n := by omega
  obtain ⟨i0, hi, hz0, hz1, hz2⟩ := info_parts infoR
  refine callsIn_of_wp_marks Try.func89 rfl h89 ?_ hro
  simp only [Try.ntmps89, List.size_toArray, List.length_cons, List.length_nil, Nat.reduceAdd, Nat.reduceSub, Array.replicate_succ, Array.replicate_zero, List.push_toArray, List.append_toArray, List.nil_append, List.cons_append]
  gi_wp2
  have bO := Boxed.new w 89 (.slice none 0 0)
  have hB0 : Below w.heap.size w (w.alloc (.cells #[.slice none 0 0] 89)) := (Below.refl _ w).alloc (Nat.le_refl _) _
  refine wpIn_rangeFunc_ownH hro h1 (gf := gf) (lb := lb) rfl hFg eg hseq KeepsWalks.trans (fun W l o o' _ ho _ hw => KeepsWalks.putObj o' ho hw) hB0 (fun _ => rfl)
    (fun pre W => (∃ v, Boxed W w.heap.size 89 v ∧ W.ownsRow w.heap.size 82 2 v pre.length (bnCells pre) ∧ True) ∧ Below w.heap.size w W)
    (fun _ _ _ => False)
    (OwnFrom.and (Own.from (holdsRow_own w.heap.size w.heap.size 89 82 2 (fun pre => pre.length) bnCells (fun _ _ => True)) _) (ownFrom_below (Nat.le_refl _) (by simp)))
    (fun _ _ _ _ _ hs _ _ => hs)
    ⟨⟨_, bO, World.ownsRow_nil _ _ _ _, trivial⟩, hB0⟩
    (fun x a' W => ∃ Bx, w.heap.size < Bx ∧ W.heap[Bx]? = some (.cells #[.int .i64 (x.1 : Int), .int .i64 (x.2 : Int)] 82 (0, 0)) ∧
      a' = { tmps := #[.slice none 0 0, .func (.func gf) #[] lb, .pointer (some ⟨w.heap.size, 0, none⟩), undef, .slice none 0 0, .pointer (some ⟨Bx, 0, none⟩), .func (.func gf) #[] lb, regVal x, undef, undef, undef, undef, undef], defers := [] })
    (fun x a' => fun _ X Y row hs hg hrow => by
      obtain ⟨Bx, h1, h2, h3⟩ := hs
      refine ⟨Bx, h1, (hg.block Bx (Array.getElem?_eq_some_iff.1 h2).1 (fun e' => ?_)).trans h2, h3⟩
      obtain ⟨_, o, ho, hc⟩ := hrow Bx e'.symm
      rw [h2] at ho; cases ho; cases hc)
    ?assign ?body ?done ?stop
  case assign =>
    rintro l pre x W K ⟨⟨v, hv, hrow, _⟩, hB⟩ hK
    unfold regVal
    gi_wp2
    exact hK _ _ ((KeepsOthers.alloc _ _).from _) (KeepsWalks.alloc _ _) ⟨⟨v, hv.alloc _, hrow.alloc _, trivial⟩, hB.alloc hB.size _⟩ ⟨W.heap.size, hv.lt, heap_alloc_new _ _, rfl⟩
  case body =>
    rintro l pre x a' W hl _ ⟨⟨v, hv, hrow, _⟩, hB⟩ ⟨Bx, hBx, hx, rfl⟩ hlt
    have hc := hv.cell
    have c0 := cell_of_row _ _ 0 _ _ _ hx
    have c1 := cell_of_row _ _ 1 _ _ _ hx
    have hBs := hB.size
    unfold regVal
    gi_wp2_with (gi_at_builtin; refine wpListIn_append_own _ rfl _ _ 89 rfl w.heap.size 82 i0 (.agg #[.int .i64 0, .int .i64 0]) 2 16 Try.underlying89 hi hz0 hz1 hz2 rfl (by decide) _ _ _ rfl (hrow.alloc _) ⟨W.heap.size, 0, none⟩ 1 1 [.int .i64 (x.1 : Int), .int .i64 (x.2 : Int)] rfl rfl (fun j u hu => by
      have e : (⟨W.heap.size, 0, none⟩ : Addr).add j = ⟨W.heap.size, j, none⟩ := by unfold Addr.add; split <;> simp_all
      rw [e, cell_of_row _ _ j _ _ _ (heap_alloc_new W _)]; simpa using hu) (by simp [Value.oneCell']) (by unfold maxLen; omega) (by omega) (by simp; omega) ?_; intro v' w1 hown' hgrow _; obtain ⟨g', cap', rfl⟩ := ownsRow_succ hown'; obtain ⟨hv1, hv2, hr2, hk2, hb2⟩ := hv.appended (by decide) hrow hB.size (Nat.le_refl _) hown' hgrow; have hc1 := hv1.cell; have hf1 := hv1.frozen)
    exact ⟨hk2.from _, hk2.walks, ⟨_, hv2, by rw [bnCells_append, List.length_append]; exact hr2, trivial⟩, hB.trans hb2⟩
  case done =>
    rintro D ys W hD hS ⟨⟨v, hv, hrow, _⟩, hB⟩ hK
    have hc := hv.cell
    gi_wp2
    refine ⟨by simp, .inl ⟨_, _, rfl, run_takeDeferred hK, ?_⟩⟩
    exact ⟨_, results_tmp rfl _ _ _, v, ys, rfl, hS, ownsRow_putObj hrow _ hK rfl, hB.trans (belowK_b (w := w) (Nat.le_refl _) W D _ _ (by simp at hD; omega) hK rfl rfl)⟩
  case stop =>
    rintro D c pre W _ _ h _
    exact h.elim
end Go.Proofs.Ytdjmjdfkblhgdaa
