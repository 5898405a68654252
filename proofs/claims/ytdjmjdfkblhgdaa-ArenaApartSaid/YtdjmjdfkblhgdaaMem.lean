/- Words for memory that the walks of this claim share: rows that are read, rows of the call's own that grow, blocks known whole. No program. -/
import Derived.WalkKit
import Derived.WalkSpells
import Derived.WalkLawsBesides
import Derived.Handy
import Derived.Maps.AppendAt
import Derived.Deep.Draws
import Derived.Lib.Hide
import Derived.MapKept
import Derived.Laws.StructEq
import Derived.IntWalk
namespace Go.Proofs.Ytdjmjdfkblhgdaa
open Go.RowKit

theorem bcell {W w1 : World} (hb : Below W.heap.size W w1) : (∀ b o, b < W.heap.size → w1.cell? ⟨b, o, none⟩ = W.cell? ⟨b, o, none⟩) ∧ (∀ b o, b < W.heap.size → w1.frozen? ⟨b, o, none⟩ = W.frozen? ⟨b, o, none⟩) :=
  ⟨fun b o h => hb.cell (p := ⟨b, o, none⟩) h, fun b o h => hb.frozen (p := ⟨b, o, none⟩) h⟩
theorem below_drewN {B : Nat} {a w : World} (h : Below B a w) (n : Nat) : Below B a (w.drewN n) := ⟨h.os, h.tape, h.output, h.size, h.block⟩
theorem ret_int {k : IntKind} {a b : Int} (h : a = b) : Ending.returned (.int k a) = .returned (.int k b) := by rw [h]
theorem ret_bool {a b : Bool} (h : a = b) : Ending.returned (.bool a) = .returned (.bool b) := by rw [h]
/-- What two calls in a row leave alone. -/
theorem below_seq {B : Nat} {a b c : World} (h : Below B a b) (k : Below b.heap.size b c) (hB : B ≤ b.heap.size) : Below B a c := h.trans (k.mono hB)
theorem below_all {a b c : World} (h : Below a.heap.size a b) (k : Below b.heap.size b c) : Below a.heap.size a c := h.trans (k.mono h.size)
theorem own_below {w w1 : World} {base e size n : Nat} {v : Value} {xs : List Value} (h : w.ownsRow base e size v n xs) (hb : Below w.heap.size w w1) : w1.ownsRow base e size v n xs :=
  h.kept (row := none) ⟨hb.os, hb.tape, hb.output, hb.size, fun k hk _ => hb.block k hk⟩ (by cases v.ownBlock <;> simp)
theorem own_base {w : World} {base base' e size n : Nat} {v : Value} {xs : List Value} (h : w.ownsRow base e size v n xs) (hb : base' ≤ base) : w.ownsRow base' e size v n xs := by
  obtain ⟨h1, h2⟩ := h
  rcases h2 with h2 | ⟨g, cap, cur, hv, hg, r⟩
  · exact ⟨h1, .inl h2⟩
  · exact ⟨h1, .inr ⟨g, cap, cur, hv, by omega, r⟩⟩
theorem grown_below {w w1 : World} (hb : Below w.heap.size w w1) (row : Option Nat) : w.grownBy w1 row := ⟨hb.os, hb.tape, hb.output, hb.size, fun k hk _ => hb.block k hk⟩
theorem grown_seq {a b c : World} {row : Option Nat} (h : a.grownBy b row) (k : b.grownBy c row) : a.grownBy c row :=
  ⟨k.os.trans h.os, k.tape.trans h.tape, k.output.trans h.output, Nat.le_trans h.size k.size, fun i hi hn => (k.block i (Nat.lt_of_lt_of_le hi h.size) hn).trans (h.block i hi hn)⟩
/-- A block that a law ending in 'grownBy' leaves alone. -/
theorem blk_grown {w w1 : World} {row : Option Nat} {g : Nat} {o : Obj} (h : w.heap[g]? = some o) (hg : w.grownBy w1 row) (hne : some g ≠ row) : w1.heap[g]? = some o :=
  (hg.block g (Array.getElem?_eq_some_iff.1 h).1 hne).trans h
theorem blk_below {w w1 : World} {g : Nat} {o : Obj} (h : w.heap[g]? = some o) (hb : Below w.heap.size w w1) : w1.heap[g]? = some o :=
  (hb.block g (Array.getElem?_eq_some_iff.1 h).1).trans h
theorem blk_lt {w : World} {g : Nat} {o : Obj} (h : w.heap[g]? = some o) : g < w.heap.size := (Array.getElem?_eq_some_iff.1 h).1
theorem blk_alloc {w : World} {g : Nat} {o : Obj} (h : w.heap[g]? = some o) (p : Obj) : (w.alloc p).heap[g]? = some o := (Below.heap_alloc w p g (blk_lt h)).trans h
theorem own_ne {w : World} {base e size n : Nat} {v : Value} {xs : List Value} (h : w.ownsRow base e size v n xs) {g : Nat} (hg : g < base) : some g ≠ v.ownBlock := by
  intro he
  have := (h.lt g he.symm).1
  omega
theorem own_row {w : World} {base e size n : Nat} {v : Value} {xs : List Value} (h : w.ownsRow base e size v n xs) : ∀ k, v.ownBlock = some k → base ≤ k := fun k hk => (h.lt k hk).1
theorem own_slice {w : World} {base e size n : Nat} {v : Value} {xs : List Value} (h : w.ownsRow base e size v n xs) : ∃ A c, v = .slice A n c := by
  rcases h.2 with ⟨rfl, rfl⟩ | ⟨g, cap, cur, rfl, _⟩
  · exact ⟨none, 0, rfl⟩
  · exact ⟨_, cap, rfl⟩
/-- Rows and blocks of unlike element types are not one. -/
theorem own_ne_type {w : World} {base e size n : Nat} {v : Value} {xs : List Value} (h : w.ownsRow base e size v n xs) {g : Nat} {cs : Array Value} {t : TypeId} {fr : Nat × Nat} (hg : w.heap[g]? = some (.cells cs t fr)) (hne : e ≠ t) : some g ≠ v.ownBlock := by
  rcases h.2 with ⟨rfl, _⟩ | ⟨g', cap, cur, rfl, _, hh, _⟩
  · simp [Value.ownBlock]
  · intro he
    have : g = g' := by simpa [Value.ownBlock] using he
    subst this
    rw [hg] at hh
    injection hh with hh
    injection hh with _ ht
    exact hne ht.symm
theorem own_ne_own {w : World} {base e size n : Nat} {v : Value} {xs : List Value} (h : w.ownsRow base e size v n xs) {base' e' size' n' : Nat} {v' : Value} {xs' : List Value} (h' : w.ownsRow base' e' size' v' n' xs') (hne : e ≠ e') :
    v.ownBlock = none ∨ v.ownBlock ≠ v'.ownBlock := by
  rcases h.2 with ⟨rfl, _⟩ | ⟨g, cap, cur, rfl, _, hh, _⟩
  · exact .inl rfl
  · exact .inr (fun e => own_ne_type h' hh (fun e => hne e.symm) e)
/-- Storing what a cell holds changes nothing. -/
theorem setCell_same {w : World} {a : Addr} {v : Value} (h : w.cell? a = some v) : w.setCell a v = w := by
  unfold World.cell? at h
  unfold World.setCell
  have e : (w.heap.modify a.block fun
      | .cells c elem frozen => .cells (if a.spot.isSome then c else c.setIfInBounds a.off v) elem frozen
      | o => o) = w.heap := by
    apply Array.ext_getElem?
    intro i
    rw [Array.getElem?_modify]
    split
    · rename_i hi
      subst hi
      cases hb : w.heap[a.block]? with
      | none => rfl
      | some o =>
        rw [hb] at h
        cases o with
        | cells c t fr =>
          simp only at h
          split at h
          · cases h
          · rename_i hs
            simp only [Option.map_some, hs]
            congr 2
            apply Array.ext_getElem?
            intro j
            rw [if_neg (by simp), Array.getElem?_setIfInBounds]
            split
            · rename_i hj
              subst hj
              have hlt := (Array.getElem?_eq_some_iff.1 h).1
              rw [if_pos hlt, h]
            · rfl
        | _ => cases h
    · rfl
  exact congrArg (fun h => ({ w with heap := h } : World)) e

/-- A row that is read: the slice with address A holds the cells xs, in a block from L on and below B. -/
def RowAt (w : World) (L B : Nat) (A : Option Addr) (xs : List Value) : Prop := ∀ j u, xs[j]? = some u → ∃ ad, A = some ad ∧ L ≤ ad.block ∧ ad.block < B ∧ w.cell? (ad.add j) = some u
theorem add_block (a : Addr) (n : Nat) : (a.add n).block = a.block := by unfold Addr.add; split <;> rfl
theorem RowAt.keep {w w1 : World} {L B : Nat} {A : Option Addr} {xs : List Value} (h : RowAt w L B A xs) (hb : Below B w w1) : RowAt w1 L B A xs := fun j u hu => by
  obtain ⟨ad, e, hL, hlt, hc⟩ := h j u hu
  exact ⟨ad, e, hL, hlt, (hb.cell (p := ad.add j) (by rw [add_block]; exact hlt)).trans hc⟩
theorem RowAt.mono {w : World} {L L' B B' : Nat} {A : Option Addr} {xs : List Value} (h : RowAt w L B A xs) (hL : L' ≤ L) (hB : B ≤ B') : RowAt w L' B' A xs := fun j u hu => by
  obtain ⟨ad, e, h1, h2, hc⟩ := h j u hu
  exact ⟨ad, e, by omega, by omega, hc⟩
theorem RowAt.far {w : World} {L B : Nat} {A : Option Addr} {xs : List Value} (h : RowAt w L B A xs) {p : Addr} (hp : p.block < L ∨ B ≤ p.block) (v : Value) : RowAt (w.setCell p v) L B A xs := fun j u hu => by
  obtain ⟨ad, e, h1, h2, hc⟩ := h j u hu
  refine ⟨ad, e, h1, h2, ?_⟩
  rw [World.cell?_of_block (w := w) (Below.heap_setCell w p v _ (by rw [add_block]; omega))]
  exact hc
theorem RowAt.grown {w w1 : World} {row : Option Nat} {L B : Nat} {A : Option Addr} {xs : List Value} (h : RowAt w L B A xs) (hg : w.grownBy w1 row) (hr : ∀ k, row = some k → k < L ∨ B ≤ k) : RowAt w1 L B A xs := fun j u hu => by
  obtain ⟨ad, e, h1, h2, hc⟩ := h j u hu
  refine ⟨ad, e, h1, h2, ?_⟩
  rw [World.cell?_of_block (w := w) (hg.block _ (World.block_lt_of_cell? w _ hc) (fun e => by have := hr _ e.symm; rw [add_block] at this; omega))]
  exact hc
theorem RowAt.own {w : World} {base e size n c : Nat} {A : Option Addr} {xs : List Value} (h : w.ownsRow base e size (.slice A n c) n xs) : RowAt w base w.heap.size A xs := fun j u hu => by
  rcases h.2 with ⟨hv, hn⟩ | ⟨g, cap, cur, hv, hbg, hg, _⟩
  · have := h.1
    subst hn
    have : xs = [] := List.eq_nil_of_length_eq_zero (by omega)
    subst this
    simp at hu
  · injection hv with hA
    subst hA
    exact ⟨_, rfl, hbg, blk_lt hg, h.cells (g := g) rfl j u hu⟩
theorem add_add' (a : Addr) (i j : Nat) : (a.add i).add j = a.add (i + j) := by
  unfold Addr.add
  by_cases hi : i = 0 <;> by_cases hj : j = 0 <;> simp [hi, hj, Nat.add_assoc]
/-- An element of several cells in a row that is read. -/
theorem RowAt.elem {w : World} {L B : Nat} {A : Option Addr} {xs : List Value} (h : RowAt w L B A xs) (k : Nat) (ys : List Value) (hy : ∀ j, j < ys.length → xs[k + j]? = ys[j]?) (h0 : 0 < ys.length) :
    ∃ ad, A = some ad ∧ L ≤ ad.block ∧ ad.block < B ∧ ∀ j v, ys[j]? = some v → w.cell? ((ad.add k).add j) = some v := by
  obtain ⟨ad, rfl, hL, hlt, _⟩ := h k (ys[0]) (by have := hy 0 h0; rw [Nat.add_zero] at this; rw [this, List.getElem?_eq_getElem h0])
  refine ⟨ad, rfl, hL, hlt, fun j v hv => ?_⟩
  have hj : j < ys.length := (List.getElem?_eq_some_iff.1 hv).1
  obtain ⟨ad', e, _, _, hc⟩ := h (k + j) v (by rw [hy j hj, hv])
  cases e
  rw [add_add']
  exact hc
section
variable {P : Program} {w : World}
/-- GUARDS: the next operation is the one that writes slot d; the next one stores a value of type t. -/
theorem at_slot {ops : Array Oper} {rest : List Oper} {a : Act} {Q : Exit → Act → World → Prop} (d : Tmp) (op : Op) (ty : TypeId) (pos : String) (aft : Array Edge) (gd : Option (Nat × Bool))
    (h : wpList P ops Q (⟨some d, op, ty, pos, aft, gd⟩ :: rest) a w) : wpList P ops Q (⟨some d, op, ty, pos, aft, gd⟩ :: rest) a w := h
theorem at_store {ops : Array Oper} {rest : List Oper} {a : Act} {Q : Exit → Act → World → Prop} (t : TypeId) (x y : Operand) (ty : TypeId) (pos : String) (aft : Array Edge) (gd : Option (Nat × Bool))
    (h : wpList P ops Q (⟨none, .store t x y, ty, pos, aft, gd⟩ :: rest) a w) : wpList P ops Q (⟨none, .store t x y, ty, pos, aft, gd⟩ :: rest) a w := h
theorem wp_push {o : Oper} {a : Act} {K : Act → World → Prop} {Q : Exit → Act → World → Prop} (s x : Operand) (t : TypeId)
    (ho : o.op = .call { callee := .builtin .append, args := #[s, x], argTypes := #[t, t] })
    (base : Nat) (e : TypeId) (i : TypeInfo) (z : Value) (size bytes : Nat) (ht : P.underlying t = some (.slice e)) (hi : P.info? e = some i) (hz : i.zero = some z)
    (hsize : i.size = size) (hby : i.bytes = bytes) (hzs : z.cells.size = size) (hsz : 0 < size)
    (v : Value) (n : Nat) (xs : List Value) (hs : a.eval s = v) (hown : w.ownsRow base e size v n xs)
    (m c : Nat) (cs : Array Value) (hx : a.eval x = .slice (some ⟨w.heap.size, 0, none⟩) m c) (hl : cs.toList.length = m * size) (h1 : cs.toList.all Value.oneCell' = true)
    (hn : n + m ≤ 1099511627776) (hbb : bytes ≤ 64) (hbase : base ≤ w.heap.size)
    (h : ∀ v' w', w'.ownsRow base e size v' (n + m) (xs ++ cs.toList) → w.grownBy w' v.ownBlock → (v'.ownBlock = v.ownBlock ∨ v'.ownBlock = some (w.heap.size + 1)) → K (a.put o.dst v') w') :
    o.wp P a (w.alloc (.cells cs e)) K Q := by
  have hb : (n + m) * bytes ≤ 140737488355328 := Nat.le_trans (Nat.mul_le_mul hn hbb) (by omega)
  obtain ⟨v', w', hr, h2, h3, _, h4⟩ := run_append_own_at (P := P) (w.alloc (.cells cs e)) base t o.type e i z size bytes ht hi hz hsize hby hzs hsz v n xs (hown.alloc _) ⟨w.heap.size, 0, none⟩ m c cs.toList hl
    (fun j u hu => by
      have : (⟨w.heap.size, 0, none⟩ : Addr).add j = ⟨w.heap.size, j, none⟩ := by unfold Addr.add; split <;> simp_all
      rw [this, cell_of_row _ _ j _ _ _ (heap_alloc_new w _)]
      simpa using hu)
    (fun u hu => (List.all_eq_true.1 h1) u hu) (by simp only [maxLen]; omega) hb (Nat.le_trans hbase (by simp))
  unfold Oper.wp execOp
  simp only [ho, resolve, invoke, builtin, Sem.run_bind, Sem.run_pure, Result.andThen_ok, List.map_toArray, List.map_cons, List.map_nil, hs, hx, hr]
  refine h v' w' h2 (grown_seq (World.grownBy_alloc w _ _) h3) ?_
  rcases h4 with h4 | h4
  · exact .inl h4
  · exact .inr (by rw [h4]; simp)
/-- The same in a region that draws its order. -/
theorem step_push {ops : Array Oper} {o : Oper} {a : Act} {K : Act → World → Prop} {Q : Exit → Act → World → Prop} {E : Prop} (hgd : o.guard = none) (s x : Operand) (t : TypeId)
    (ho : o.op = .call { callee := .builtin .append, args := #[s, x], argTypes := #[t, t] })
    (base : Nat) (e : TypeId) (i : TypeInfo) (z : Value) (size bytes : Nat) (ht : P.underlying t = some (.slice e)) (hi : P.info? e = some i) (hz : i.zero = some z)
    (hsize : i.size = size) (hby : i.bytes = bytes) (hzs : z.cells.size = size) (hsz : 0 < size)
    (v : Value) (n : Nat) (xs : List Value) (hs : a.eval s = v) (hown : w.ownsRow base e size v n xs)
    (m c : Nat) (cs : Array Value) (hx : a.eval x = .slice (some ⟨w.heap.size, 0, none⟩) m c) (hl : cs.toList.length = m * size) (h1 : cs.toList.all Value.oneCell' = true)
    (hn : n + m ≤ 1099511627776) (hbb : bytes ≤ 64) (hbase : base ≤ w.heap.size)
    (h : ∀ v' w', w'.ownsRow base e size v' (n + m) (xs ++ cs.toList) → w.grownBy w' v.ownBlock → (v'.ownBlock = v.ownBlock ∨ v'.ownBlock = some (w.heap.size + 1)) → K (a.put o.dst v') w') :
    if Region.wanted o (yielded ops a.tmps) = true then Oper.wp P o a (w.alloc (.cells cs e)) K Q else E := by
  have hw : Region.wanted o (yielded ops a.tmps) = true := by simp [Region.wanted, hgd]
  rw [if_pos hw]
  exact wp_push s x t ho base e i z size bytes ht hi hz hsize hby hzs hsz v n xs hs hown m c cs hx hl h1 hn hbb hbase h
/-- One append of a row that was just built onto a row of the call's own. -/
theorem wpList_push {ops : Array Oper} {rest : List Oper} {o : Oper} {a : Act} {Q : Exit → Act → World → Prop} (hgd : o.guard = none) (s x : Operand) (t : TypeId)
    (ho : o.op = .call { callee := .builtin .append, args := #[s, x], argTypes := #[t, t] })
    (base : Nat) (e : TypeId) (i : TypeInfo) (z : Value) (size bytes : Nat) (ht : P.underlying t = some (.slice e)) (hi : P.info? e = some i) (hz : i.zero = some z)
    (hsize : i.size = size) (hby : i.bytes = bytes) (hzs : z.cells.size = size) (hsz : 0 < size)
    (v : Value) (n : Nat) (xs : List Value) (hs : a.eval s = v) (hown : w.ownsRow base e size v n xs)
    (m c : Nat) (cs : Array Value) (hx : a.eval x = .slice (some ⟨w.heap.size, 0, none⟩) m c) (hl : cs.toList.length = m * size) (h1 : cs.toList.all Value.oneCell' = true)
    (hn : n + m ≤ 1099511627776) (hbb : bytes ≤ 64) (hbase : base ≤ w.heap.size)
    (h : ∀ v' w', w'.ownsRow base e size v' (n + m) (xs ++ cs.toList) → w.grownBy w' v.ownBlock → (v'.ownBlock = v.ownBlock ∨ v'.ownBlock = some (w.heap.size + 1)) → wpList P ops Q rest (a.put o.dst v') w') :
    wpList P ops Q (o :: rest) a (w.alloc (.cells cs e)) := by
  exact wpList_plain hgd fun K hK => wp_push s x t ho base e i z size bytes ht hi hz hsize hby hzs hsz v n xs hs hown m c cs hx hl h1 hn hbb hbase fun v' w' h2 h3 h4 => hK _ _ (h v' w' h2 h3 h4)

theorem run_sizeOf_of {ty n : Nat} (hi : (P.info? ty).map (·.size) = some n) (w : World) : (sizeOf ty).run P w = .ok n w := by
  cases hq : P.info? ty with
  | none => simp [hq] at hi
  | some i =>
    have hs : i.size = n := by simpa [hq] using hi
    simp [sizeOf, typeInfo, hq, hs]
/-- An aggregate read from wherever its cells lie. -/
theorem wpList_load_at {ops : Array Oper} {rest : List Oper} {o : Oper} {a : Act} {Q : Exit → Act → World → Prop} (hgd : o.guard = none) (ty : TypeId) (x : Operand) (ho : o.op = .load ty x)
    (ad : Addr) (hx : a.eval x = .pointer (some ad)) (cs : List Value) (hc : ∀ j v, cs[j]? = some v → w.cell? (ad.add j) = some v) (d : TypeDesc)
    (hu : P.underlying ty = some d) (hd : (match d with | .struct _ | .array _ _ => true | _ => false) = true) (hi : (P.info? ty).map (·.size) = some cs.length)
    (h : wpList P ops Q rest (a.put o.dst (.agg cs.toArray)) w) : wpList P ops Q (o :: rest) a w := by
  refine wpList_plain hgd fun K hK => ?_
  have hl := run_loadCells_list (P := P) w ad cs hc
  have hagg : (isAgg ty).run P w = .ok true w := by
    unfold isAgg
    rw [Sem.run_bind, run_underlying hu w]
    cases d <;> simp_all
  unfold Oper.wp execOp
  simp only [ho, hx, Instr.loadAt, Instr.sureAddr, Sem.run_bind, Sem.run_pure, Result.andThen_ok, loadVar, hagg, if_true, run_sizeOf_of hi, hl]
  exact hK _ _ h
theorem alloc_setRow (w : World) (cur cs : Array Value) (t : TypeId) : (w.alloc (.cells cur t)).setRow w.heap.size cs = w.alloc (.cells cs t) := by
  unfold World.setRow World.alloc
  congr 1
  apply Array.ext_getElem?
  intro i
  simp only [Array.getElem?_modify, Array.getElem?_push]
  by_cases h : w.heap.size = i
  · subst h; simp
  · rw [if_neg h, if_neg (fun e => h e.symm), if_neg (fun e => h e.symm)]
/-- An aggregate stored into the variable that was just laid for it. -/
theorem wpList_store_fresh {ops : Array Oper} {rest : List Oper} {o : Oper} {a : Act} {Q : Exit → Act → World → Prop} (hgd : o.guard = none) (ty : TypeId) (x y : Operand) (ho : o.op = .store ty x y)
    (hx : a.eval x = .pointer (some ⟨w.heap.size, 0, none⟩)) (cs cur : Array Value) (t : TypeId) (hy : a.eval y = .agg cs) (h1 : ∀ v ∈ cs.toList, v.oneCell' = true) (hlen : cs.size = cur.size)
    (hi : (P.info? ty).map (·.size) = some cs.size)
    (h : wpList P ops Q rest (a.put o.dst undef) (w.alloc (.cells cs t))) : wpList P ops Q (o :: rest) a (w.alloc (.cells cur t)) := by
  refine wpList_plain hgd fun K hK => ?_
  have hst := run_storeCells_at P w.heap.size 0 t cs.toList 0 cur (w.alloc (.cells cur t)) (heap_alloc_new w _) (by simp [hlen]) h1
  have e : (cur.toList.take (0 + 0) ++ cs.toList ++ cur.toList.drop (0 + 0 + cs.toList.length)).toArray = cs := by
    rw [List.drop_eq_nil_of_le (by simp [hlen])]
    simp
  rw [e, alloc_setRow] at hst
  unfold Oper.wp execOp
  simp only [ho, hx, hy, Instr.storeAt, Instr.sureAddr, Sem.run_bind, Sem.run_pure, Result.andThen_ok, storeVar, run_sizeOf_of hi, Value.cells, ne_eq, not_true_eq_false, if_false, hst]
  exact hK _ _ h
/-- An element of an array in hand. -/
theorem run_index_row (t e : TypeId) (n : Nat) (d : TypeDesc) (ht : P.underlying t = some (.array n e)) (he : P.underlying e = some d) (hd : (match d with | .struct _ | .array _ _ => false | _ => true) = true)
    (hi : (P.info? e).map (·.size) = some 1) (cs : Array Value) (k : IntKind) (j : Nat) (hj : j < n) (v : Value) (hv : cs[j]? = some v) :
    (Instr.index t (.agg cs) (.int k (j : Int))).run P w = .ok v w := by
  have hagg : (isAgg e).run P w = .ok false w := by
    unfold isAgg
    rw [Sem.run_bind, run_underlying he w]
    cases d <;> simp_all
  simp [Instr.index, asIntOf, run_underlying ht, hj, run_sizeOf_of hi, part, hagg, hv]
end

section
variable {P : Program} {w : World}
theorem run_part_int (e : TypeId) (k : IntKind) (he : P.underlying e = some (.int k)) (xs : Array Value) (i : Nat) (v : Value) (hv : xs[i]? = some v) : (part e xs i).run P w = .ok v w := by
  have hagg : (isAgg e).run P w = .ok false w := by
    unfold isAgg
    rw [Sem.run_bind, run_underlying he w]
    simp
  simp [part, hagg, hv]
/-- Are two rows of numbers the same on a stretch? -/
def sameOn (f g : Nat → Int) : Nat → Nat → Bool
  | _, 0 => true
  | a, n + 1 => (f a == g a) && sameOn f g (a + 1) n
theorem sameOn_iff (f g : Nat → Int) : ∀ (n a : Nat), sameOn f g a n = true ↔ ∀ i, a ≤ i → i < a + n → f i = g i := by
  intro n
  induction n with
  | zero => intro a; simp only [sameOn, true_iff]; intro i h1 h2; omega
  | succ n ih =>
    intro a
    simp only [sameOn, Bool.and_eq_true, beq_iff_eq, ih]
    constructor
    · rintro ⟨h, hh⟩ i h1 h2
      by_cases hi : i = a
      · subst hi; exact h
      · exact hh i (by omega) (by omega)
    · intro hh
      exact ⟨hh a (by omega) (by omega), fun i h1 h2 => hh i (by omega) (by omega)⟩
theorem run_equalIn_ints (d : Nat) (t e : TypeId) (N : Nat) (k : IntKind) (ht : P.underlying t = some (.array N e)) (he : P.underlying e = some (.int k)) (hs : (P.info? e).map (·.size) = some 1)
    (xs ys : Array Value) (f g : Nat → Int) (hx : ∀ i, i < N → xs[i]? = some (.int k (f i))) (hy : ∀ i, i < N → ys[i]? = some (.int k (g i))) :
    (Op.equalIn (d + 2) t (.agg xs) (.agg ys)).run P w = .ok (sameOn f g 0 N) w := by
  rw [Op.equalIn]
  simp only [Sem.run_bind, run_underlying ht, Result.andThen_ok, run_sizeOf_of hs, Nat.mul_one, Std.Legacy.Range.forIn_eq_forIn_range']
  have key : ∀ n a, a + n ≤ N → (forIn (List.range' a n) ((none : Option Bool), ()) fun i __s => do
      let __do_lift ← part e xs i
      let __do_lift_1 ← part e ys i
      let __do_lift ← Op.equalIn (d + 1) e __do_lift __do_lift_1
      if (!__do_lift) = true then pure (ForInStep.done (some false, ())) else pure (ForInStep.yield (none, ()))).run P w = .ok (if sameOn f g a n then (none, ()) else (some false, ())) w := by
    intro n
    induction n with
    | zero => intro a _; simp [sameOn]
    | succ n ih =>
      intro a ha
      rw [List.range'_succ, List.forIn_cons]
      simp only [Sem.run_bind, run_part_int e k he xs a _ (hx a (by omega)), run_part_int e k he ys a _ (hy a (by omega)), Result.andThen_ok, run_equalIn_int w d e k k _ _ he]
      cases h : f a == g a
      · simp [sameOn, h]
      · simp only [Bool.not_true, Bool.false_eq_true, if_false, Sem.run_pure, Result.andThen_ok]
        rw [ih (a + 1) (by omega)]
        simp [sameOn, h]
  have := key N 0 (by omega)
  rw [show [:N].size = N by simp [Std.Legacy.Range.size]]
  rw [this]
  cases sameOn f g 0 N <;> simp
end

/-! ### maps with int keys -/
/-- Block b is a map that holds just these keys, in this order, with these values. -/
def MapI (w : World) (b : Nat) (l : List (Int × Value)) : Prop :=
  ∃ (es : Array MapEntry) (clock : Nat), w.heap[b]? = some (.map es clock) ∧ es.toList.map (fun e => (e.key, e.val)) = l.map fun p => (Value.int .i64 p.1, p.2)
theorem MapI.lt {w : World} {b : Nat} {l : List (Int × Value)} (h : MapI w b l) : b < w.heap.size := by obtain ⟨es, c, hb, _⟩ := h; exact blk_lt hb
theorem MapI.below {w w1 : World} {b : Nat} {l : List (Int × Value)} (h : MapI w b l) (hb : Below w.heap.size w w1) : MapI w1 b l := by obtain ⟨es, c, hbb, r⟩ := h; exact ⟨es, c, blk_below hbb hb, r⟩
theorem MapI.grown {w w1 : World} {row : Option Nat} {b : Nat} {l : List (Int × Value)} (h : MapI w b l) (hg : w.grownBy w1 row) (hne : some b ≠ row) : MapI w1 b l := by obtain ⟨es, c, hbb, r⟩ := h; exact ⟨es, c, blk_grown hbb hg hne, r⟩
theorem MapI.alloc {w : World} {b : Nat} {l : List (Int × Value)} (h : MapI w b l) (o : Obj) : MapI (w.alloc o) b l := by obtain ⟨es, c, hbb, r⟩ := h; exact ⟨es, c, blk_alloc hbb o, r⟩
theorem MapI.new (w : World) : MapI (w.alloc (.map #[] 0)) w.heap.size [] := ⟨#[], 0, heap_alloc_new w _, rfl⟩
theorem MapI.far {w : World} {b : Nat} {l : List (Int × Value)} (h : MapI w b l) {p : Addr} (hne : b ≠ p.block) (v : Value) : MapI (w.setCell p v) b l := by obtain ⟨es, c, hbb, r⟩ := h; exact ⟨es, c, (Below.heap_setCell w p v b hne).trans hbb, r⟩
/-- The place and the value of a key. -/
def findI : List (Int × Value) → Int → Nat → Option (Nat × Value)
  | [], _, _ => none
  | p :: l, k, j => if p.1 = k then some (j, p.2) else findI l k (j + 1)
theorem MapI.own_ne {w : World} {b : Nat} {l : List (Int × Value)} (h : MapI w b l) {base e size n : Nat} {v : Value} {xs : List Value} (ho : w.ownsRow base e size v n xs) : some b ≠ v.ownBlock := by
  obtain ⟨es, c, hb, _⟩ := h
  rcases ho.2 with ⟨rfl, _⟩ | ⟨g, cap, cur, rfl, _, hg, _⟩
  · simp [Value.ownBlock]
  · intro he
    have : b = g := by simpa [Value.ownBlock] using he
    subst this
    rw [hb] at hg
    cases hg
def lookI (l : List (Int × Value)) (k : Int) : Option Value := (findI l k 0).map (·.2)
/-- The map with a key's value stored: in its old place, or at the end. -/
def putI (l : List (Int × Value)) (k : Int) (v : Value) : List (Int × Value) :=
  match findI l k 0 with
  | some (i, _) => l.set i (k, v)
  | none => l ++ [(k, v)]
theorem findI_none {l : List (Int × Value)} {k : Int} (h : ∀ p, p ∈ l → p.1 ≠ k) : ∀ j, findI l k j = none := by
  induction l with
  | nil => intro j; rfl
  | cons p l ih =>
    intro j
    show (if p.1 = k then some (j, p.2) else findI l k (j + 1)) = none
    rw [if_neg (h p List.mem_cons_self)]
    exact ih (fun q hq => h q (List.mem_cons_of_mem _ hq)) _
theorem findI_at {l : List (Int × Value)} {k : Int} {v : Value} : ∀ {i : Nat}, l[i]? = some (k, v) → (∀ m, m < i → ∀ p, l[m]? = some p → p.1 ≠ k) → ∀ j, findI l k j = some (j + i, v) := by
  induction l with
  | nil => intro i h; simp at h
  | cons p l ih =>
    intro i h hb j
    show (if p.1 = k then some (j, p.2) else findI l k (j + 1)) = _
    cases i with
    | zero => simp at h; subst h; simp
    | succ i =>
      rw [if_neg (hb 0 (by omega) p rfl), ih (i := i) (by simpa using h) (fun m hm q hq => hb (m + 1) (by omega) q (by simpa using hq))]
      congr 2; omega
theorem findI_lt {l : List (Int × Value)} {k : Int} : ∀ {j i : Nat} {v : Value}, findI l k j = some (i, v) → j ≤ i ∧ l[i - j]? = some (k, v) := by
  induction l with
  | nil => intro j i v h; cases h
  | cons p l ih =>
    intro j i v h
    have h' : (if p.1 = k then some (j, p.2) else findI l k (j + 1)) = some (i, v) := h
    split at h'
    · rename_i e
      simp only [Option.some.injEq, Prod.mk.injEq] at h'
      obtain ⟨rfl, rfl⟩ := h'
      subst e
      simp
    · obtain ⟨h1, h2⟩ := ih h'
      refine ⟨by omega, ?_⟩
      rw [show i - j = (i - (j + 1)) + 1 by omega]
      simpa using h2
section
variable {P : Program} {w : World}
theorem run_findKey_int (K : TypeId) (hK : P.underlying K = some (.int .i64)) (k : Int) (es : List MapEntry) (l : List (Int × Value)) (h : es.map (fun e => (e.key, e.val)) = l.map fun p => (Value.int .i64 p.1, p.2)) :
    (Instr.findKey K (.int .i64 k) es).run P w = .ok (findI l k 0) w := by
  have key : ∀ (es : List MapEntry) (l : List (Int × Value)) (j : Nat), es.map (fun e => (e.key, e.val)) = l.map (fun p => (Value.int .i64 p.1, p.2)) →
      Instr.findNow (.int .i64) (.int .i64 k) es j = some (findI l k j) := by
    intro es
    induction es with
    | nil => intro l j h; cases l with
      | nil => rfl
      | cons p l => simp at h
    | cons e es ih =>
      intro l j h
      cases l with
      | nil => simp at h
      | cons p l =>
        simp only [List.map_cons, List.cons.injEq, Prod.mk.injEq] at h
        obtain ⟨⟨h1, h2⟩, h3⟩ := h
        have hi := ih l (j + 1) h3
        simp only [Instr.findNow, h1, Instr.sameNow, if_true, findI]
        by_cases hk : p.1 = k
        · subst hk; simp [h2]
        · have h4 : (k == p.1) = false := by simp; exact fun e => hk e.symm
          simp only [h4, hi, if_neg hk]
  have := key es l 0 h
  simp only [Instr.findKey, Sem.run_bind, run_underlying hK, Result.andThen_ok, this, Sem.run_pure]
theorem run_checkKey_int (K : TypeId) (hK : P.underlying K = some (.int .i64)) (k : Int) (em : Bool) : (Instr.checkKey em 10000 K (.int .i64 k)).run P w = .ok () w :=
  MapKept.run_checkKey hK (by simp [MapKept.IsKey]) em 9999
theorem run_lookup_int {b : Nat} {l : List (Int × Value)} (h : MapI w b l) (T K E : TypeId) (hT : P.underlying T = some (.map K E)) (hK : P.underlying K = some (.int .i64)) (z : Value) (hz : (zeroValue E).run P w = .ok z w) (k : Int) (ok : Bool) :
    (Instr.lookup T (.map (some b)) (.int .i64 k) ok).run P w = .ok (if ok then .tuple #[(lookI l k).getD z, .bool (lookI l k).isSome] else (lookI l k).getD z) w := by
  obtain ⟨es, clock, hb, he⟩ := h
  have hf := run_findKey_int (P := P) (w := w) K hK k es.toList l he
  simp only [Instr.lookup, Sem.run_bind, run_underlying hT, Result.andThen_ok, MapKept.run_getObj_map hb, Sem.run_pure, run_checkKey_int K hK, hf]
  unfold lookI
  cases findI l k 0 with
  | none => cases ok <;> simp [hz]
  | some p => cases ok <;> simp
theorem run_update_int {b : Nat} {l : List (Int × Value)} (h : MapI w b l) (T K E : TypeId) (hT : P.underlying T = some (.map K E)) (hK : P.underlying K = some (.int .i64)) (k : Int) (v : Value) :
    ∃ w', (Instr.mapUpdate T (.map (some b)) (.int .i64 k) v).run P w = .ok () w' ∧ MapI w' b (putI l k v) ∧ w.grownBy w' (some b) ∧ w'.heap.size = w.heap.size := by
  obtain ⟨es, clock, hb, he⟩ := h
  have hf := run_findKey_int (P := P) (w := w) K hK k es.toList l he
  have hlen : es.size = l.length := by have := congrArg List.length he; simpa using this
  have hgrown : ∀ o : Obj, w.grownBy { w with heap := w.heap.setIfInBounds b o } (some b) := fun o =>
    ⟨rfl, rfl, rfl, by simp, fun i hi hne => by
      show (w.heap.setIfInBounds b o)[i]? = _
      rw [Array.getElem?_setIfInBounds, if_neg (fun e => hne (by rw [e]))]⟩
  have hget : ∀ o : Obj, ({ w with heap := w.heap.setIfInBounds b o } : World).heap[b]? = some o := fun o => by
    show (w.heap.setIfInBounds b o)[b]? = _
    rw [Array.getElem?_setIfInBounds, if_pos rfl, if_pos (blk_lt hb)]
  simp only [Instr.mapUpdate, Sem.run_bind, run_underlying hT, Result.andThen_ok, MapKept.run_getObj_map hb, run_checkKey_int K hK, hf]
  unfold putI
  cases hfi : findI l k 0 with
  | none =>
    refine ⟨_, MapKept.run_setObj_map _ hb, ⟨_, _, hget _, ?_⟩, hgrown _, by simp⟩
    simp [he]
  | some p =>
    obtain ⟨i, v0⟩ := p
    obtain ⟨_, hi⟩ := findI_lt hfi
    rw [Nat.sub_zero] at hi
    have hkey : (es[i]?).map (fun e => (e.key, e.val)) = some (Value.int .i64 k, v0) := by
      have := congrArg (fun l => l[i]?) he
      simp only [List.getElem?_map, hi] at this
      simpa using this
    obtain ⟨e, hes, hev⟩ := Option.map_eq_some_iff.1 hkey
    simp only [Prod.mk.injEq] at hev
    have hstay : (Instr.keyThatStays (((es[i]?).map (·.key)).getD (.int .i64 k)) (.int .i64 k)).run P w = .ok (.int .i64 k) w := by
      simp [Instr.keyThatStays, hes, hev.1, Instr.sameBits]
    simp only [hstay, Sem.run_bind, Result.andThen_ok]
    refine ⟨_, MapKept.run_setObj_map _ hb, ⟨_, _, hget _, ?_⟩, hgrown _, by simp⟩
    apply List.ext_getElem?
    intro j
    have hj := congrArg (fun l => l[j]?) he
    simp only [List.getElem?_map] at hj ⊢
    have hil : i < l.length := (List.getElem?_eq_some_iff.1 hi).1
    simp only [Array.toList_modify, List.getElem?_modify, List.getElem?_set]
    by_cases e' : i = j
    · subst e'
      rw [if_pos rfl, if_pos hil]
      simp [hes]
    · rw [if_neg e', ← hj]
      cases es.toList[j]? with
      | none => rfl
      | some y => simp [e']
/-- A look-up, 'v, ok := m[k]'. -/
theorem wpList_lookI {ops : Array Oper} {rest : List Oper} {o : Oper} {a : Act} {Q : Exit → Act → World → Prop} (hgd : o.guard = none) (m x : Operand) (T : TypeId) (ok : Bool) (hop : o.op = .lookup T m x ok)
    {b : Nat} {l : List (Int × Value)} (K E : TypeId) (hT : P.underlying T = some (.map K E)) (hK : P.underlying K = some (.int .i64)) (z : Value) (hz : (zeroValue E).run P w = .ok z w) (k : Int)
    (hm : a.eval m = .map (some b)) (hx : a.eval x = .int .i64 k) (h : MapI w b l)
    (hK' : wpList P ops Q rest (a.put o.dst (if ok then .tuple #[(lookI l k).getD z, .bool (lookI l k).isSome] else (lookI l k).getD z)) w) : wpList P ops Q (o :: rest) a w := by
  refine wpList_plain hgd fun K' hKK => ?_
  unfold Oper.wp execOp
  simp only [hop, hm, hx, Sem.run_bind, run_lookup_int h T K E hT hK z hz k ok, Result.andThen_ok, Sem.run_pure]
  exact hKK _ _ hK'
theorem wpList_putI {ops : Array Oper} {rest : List Oper} {o : Oper} {a : Act} {Q : Exit → Act → World → Prop} (hgd : o.guard = none) (m x y : Operand) (T : TypeId) (hop : o.op = .mapUpdate T m x y)
    {b : Nat} {l : List (Int × Value)} (K E : TypeId) (hT : P.underlying T = some (.map K E)) (hK : P.underlying K = some (.int .i64)) (k : Int) (v : Value)
    (hm : a.eval m = .map (some b)) (hx : a.eval x = .int .i64 k) (hy : a.eval y = v) (h : MapI w b l)
    (hK' : ∀ w', MapI w' b (putI l k v) → w.grownBy w' (some b) → w'.heap.size = w.heap.size → wpList P ops Q rest (a.put o.dst undef) w') : wpList P ops Q (o :: rest) a w := by
  refine wpList_plain hgd fun K' hKK => ?_
  obtain ⟨w', hr, h1, h2, h3⟩ := run_update_int (P := P) h T K E hT hK k v
  unfold Oper.wp execOp
  simp only [hop, hm, hx, hy, Sem.run_bind, hr, Result.andThen_ok, Sem.run_pure]
  exact hKK _ _ (hK' w' h1 h2 h3)
end
end Go.Proofs.Ytdjmjdfkblhgdaa
