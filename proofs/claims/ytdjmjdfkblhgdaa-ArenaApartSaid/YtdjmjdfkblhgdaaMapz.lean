/- Maps whose keys are plain values: what a block holds, and what look-up, store, deletion, length and ranging do to it. No program. -/
import Derived.Test.YtdjmjdfkblhgdaaMem
import Derived.Maps.RangeRun
import Derived.Maps.Own
namespace Go.Proofs.Ytdjmjdfkblhgdaa
open Go.RowKit Go.Maps Go.ChangeMaps

section
variable {κ : Type}
/-- Block b is a map that holds just these keys with these values, in this order. -/
def MapZ (enc : κ → Value) (w : World) (b : Nat) (l : List (κ × Value)) : Prop :=
  ∃ (es : Array MapEntry) (clock : Nat), w.heap[b]? = some (.map es clock) ∧ es.toList.map (fun e => (e.key, e.val)) = l.map (fun p => (enc p.1, p.2)) ∧ MapKept.Stamped es clock
variable {enc : κ → Value} {w w1 : World} {b : Nat} {l : List (κ × Value)}
theorem MapZ.lt (h : MapZ enc w b l) : b < w.heap.size := by obtain ⟨es, c, hb, _⟩ := h; exact blk_lt hb
theorem MapZ.below (h : MapZ enc w b l) (hb : Below w.heap.size w w1) : MapZ enc w1 b l := by obtain ⟨es, c, hbb, r⟩ := h; exact ⟨es, c, blk_below hbb hb, r⟩
theorem MapZ.same (h : MapZ enc w b l) (hb : w1.heap[b]? = w.heap[b]?) : MapZ enc w1 b l := by obtain ⟨es, c, hbb, r⟩ := h; exact ⟨es, c, hb.trans hbb, r⟩
theorem MapZ.new (w : World) : MapZ enc (w.alloc (.map #[] 0)) w.heap.size [] := ⟨#[], 0, heap_alloc_new w _, rfl, MapKept.stamped_empty 0⟩
theorem MapZ.nodup (h : MapZ enc w b l) : (l.map (·.1)).Nodup := by
  obtain ⟨es, c, _, he, hs⟩ := h
  have h3 := ((MapKept.stamped_iff es c).1 hs).2.2
  have h4 : (es.toList.map (fun e => (e.key, e.val))).Pairwise fun x y => x.1 ≠ y.1 := by rw [List.pairwise_map]; exact h3
  rw [he, List.pairwise_map] at h4
  rw [List.Nodup, List.pairwise_map]
  exact h4.imp fun h e => h (by simp only; rw [e])
theorem map_at {es : List MapEntry} {l : List (κ × Value)} (he : es.map (fun e => (e.key, e.val)) = l.map (fun p => (enc p.1, p.2))) {i : Nat} {p : κ × Value} (hi : l[i]? = some p) : ∃ e, es[i]? = some e ∧ e.key = enc p.1 ∧ e.val = p.2 := by
  have hj := congrArg (fun l => l[i]?) he
  simp only [List.getElem?_map, hi] at hj
  obtain ⟨e, h1, h2⟩ := Option.map_eq_some_iff.1 hj
  simp only [Prod.mk.injEq] at h2
  exact ⟨e, h1, h2.1, h2.2⟩
theorem map_at' {es : List MapEntry} {l : List (κ × Value)} (he : es.map (fun e => (e.key, e.val)) = l.map (fun p => (enc p.1, p.2))) {i : Nat} {e : MapEntry} (hi : es[i]? = some e) : ∃ p, l[i]? = some p ∧ e.key = enc p.1 ∧ e.val = p.2 := by
  have hj := congrArg (fun l => l[i]?) he
  simp only [List.getElem?_map, hi] at hj
  obtain ⟨p, h1, h2⟩ := Option.map_eq_some_iff.1 hj.symm
  simp only [Prod.mk.injEq] at h2
  exact ⟨p, h1, h2.1.symm, h2.2.symm⟩
end
section
variable {κ : Type} [DecidableEq κ]
def findK : List (κ × Value) → κ → Nat → Option (Nat × Value)
  | [], _, _ => none
  | p :: l, k, j => if p.1 = k then some (j, p.2) else findK l k (j + 1)
def lookK (l : List (κ × Value)) (k : κ) : Option Value := (findK l k 0).map (·.2)
def putK (l : List (κ × Value)) (k : κ) (v : Value) : List (κ × Value) :=
  match findK l k 0 with
  | some (i, _) => l.set i (k, v)
  | none => l ++ [(k, v)]
def delK (l : List (κ × Value)) (k : κ) : List (κ × Value) := l.filter fun p => p.1 ≠ k
theorem findK_none {l : List (κ × Value)} {k : κ} : ∀ {j}, findK l k j = none ↔ ∀ p, p ∈ l → p.1 ≠ k := by
  induction l with
  | nil => intro j; simp [findK]
  | cons p l ih =>
    intro j
    show (if p.1 = k then some (j, p.2) else findK l k (j + 1)) = none ↔ _
    by_cases h : p.1 = k
    · rw [if_pos h]; simp [h]
    · rw [if_neg h, ih]; simp [h]
theorem findK_lt {l : List (κ × Value)} {k : κ} : ∀ {j i : Nat} {v : Value}, findK l k j = some (i, v) → j ≤ i ∧ l[i - j]? = some (k, v) := by
  induction l with
  | nil => intro j i v h; cases h
  | cons p l ih =>
    intro j i v h
    have h' : (if p.1 = k then some (j, p.2) else findK l k (j + 1)) = some (i, v) := h
    split at h'
    · rename_i e
      simp only [Option.some.injEq, Prod.mk.injEq] at h'
      obtain ⟨rfl, rfl⟩ := h'
      subst e
      simp
    · obtain ⟨h1, h2⟩ := ih h'
      refine ⟨by omega, ?_⟩
      rw [show i - j = (i - (j + 1)) + 1 by omega]
      simpa using h2
/-- Which keys' equality the model reckons. -/
structure KeyLaw (P : Program) (K : TypeId) (enc : κ → Value) : Prop where
  check : ∀ (em : Bool) (k : κ) (w : World), (Instr.checkKey em 10000 K (enc k)).run P w = .ok () w
  find : ∀ (k : κ) (es : List MapEntry) (l : List (κ × Value)) (w : World), es.map (fun e => (e.key, e.val)) = l.map (fun p => (enc p.1, p.2)) → (Instr.findKey K (enc k) es).run P w = .ok (findK l k 0) w
  stays : ∀ (k : κ) (w : World), (Instr.keyThatStays (enc k) (enc k)).run P w = .ok (enc k) w
  inj : ∀ a b, enc a = enc b → a = b
variable {enc : κ → Value} {w w1 : World} {b : Nat} {l : List (κ × Value)}
variable {P : Program}
theorem run_lookupZ {K : TypeId} (L : KeyLaw P K enc) (h : MapZ enc w b l) (T E : TypeId) (hT : P.underlying T = some (.map K E)) (z : Value) (hz : (zeroValue E).run P w = .ok z w) (k : κ) (ok : Bool) :
    (Instr.lookup T (.map (some b)) (enc k) ok).run P w = .ok (if ok then .tuple #[(lookK l k).getD z, .bool (lookK l k).isSome] else (lookK l k).getD z) w := by
  obtain ⟨es, clock, hb, he, _⟩ := h
  have hf := L.find k es.toList l w he
  simp only [Instr.lookup, Sem.run_bind, run_underlying hT, Result.andThen_ok, MapKept.run_getObj_map hb, Sem.run_pure, L.check, hf]
  unfold lookK
  cases findK l k 0 with
  | none => cases ok <;> simp [hz]
  | some p => cases ok <;> simp
theorem run_lookupZ_nil {K : TypeId} (L : KeyLaw P K enc) (T E : TypeId) (hT : P.underlying T = some (.map K E)) (z : Value) (hz : (zeroValue E).run P w = .ok z w) (k : κ) (ok : Bool) :
    (Instr.lookup T (.map none) (enc k) ok).run P w = .ok (if ok then .tuple #[z, .bool false] else z) w := by
  have hf := L.find k [] [] w rfl
  simp only [Instr.lookup, Sem.run_bind, run_underlying hT, Result.andThen_ok, Sem.run_pure, L.check, hf, findK]
  cases ok <;> simp [hz]
theorem run_updateZ {K : TypeId} (L : KeyLaw P K enc) (h : MapZ enc w b l) (T E : TypeId) (hT : P.underlying T = some (.map K E)) (k : κ) (v : Value) :
    ∃ w', (Instr.mapUpdate T (.map (some b)) (enc k) v).run P w = .ok () w' ∧ MapZ enc w' b (putK l k v) ∧ w.grownBy w' (some b) ∧ w'.heap.size = w.heap.size := by
  obtain ⟨es, clock, hb, he, hst⟩ := h
  have hf := L.find k es.toList l w he
  have hgrown : ∀ o : Obj, w.grownBy { w with heap := w.heap.setIfInBounds b o } (some b) := fun o =>
    ⟨rfl, rfl, rfl, by simp, fun i hi hne => by
      show (w.heap.setIfInBounds b o)[i]? = _
      rw [Array.getElem?_setIfInBounds, if_neg (fun e => hne (by rw [e]))]⟩
  have hget : ∀ o : Obj, ({ w with heap := w.heap.setIfInBounds b o } : World).heap[b]? = some o := fun o => by
    show (w.heap.setIfInBounds b o)[b]? = _
    rw [Array.getElem?_setIfInBounds, if_pos rfl, if_pos (blk_lt hb)]
  simp only [Instr.mapUpdate, Sem.run_bind, run_underlying hT, Result.andThen_ok, MapKept.run_getObj_map hb, L.check, hf]
  unfold putK
  cases hfi : findK l k 0 with
  | none =>
    have hno := findK_none.1 hfi
    refine ⟨_, MapKept.run_setObj_map _ hb, ⟨_, _, hget _, ?_, MapKept.stamped_push hst ?_⟩, hgrown _, by simp⟩
    · simp [he]
    · intro x hx e
      obtain ⟨i, hi⟩ := List.getElem?_of_mem hx
      obtain ⟨p, hp, hk, _⟩ := map_at' he hi
      exact hno p (List.mem_of_getElem? hp) (L.inj _ _ (hk.symm.trans e))
  | some p =>
    obtain ⟨i, v0⟩ := p
    obtain ⟨_, hi⟩ := findK_lt hfi
    rw [Nat.sub_zero] at hi
    obtain ⟨e, hes, hek, hev⟩ := map_at he hi
    have hes' : es[i]? = some e := by simpa using hes
    have hstay := L.stays k w
    simp only [hes', Option.map_some, Option.getD_some, hek, hstay, Sem.run_bind, Result.andThen_ok]
    have hil : i < l.length := (List.getElem?_eq_some_iff.1 hi).1
    refine ⟨_, MapKept.run_setObj_map _ hb, ⟨_, _, hget _, ?_, ?_⟩, hgrown _, by simp⟩
    · apply List.ext_getElem?
      intro j
      have hj := congrArg (fun l => l[j]?) he
      simp only [List.getElem?_map] at hj ⊢
      simp only [Array.toList_modify, List.getElem?_modify, List.getElem?_set]
      by_cases e' : i = j
      · subst e'
        rw [if_pos rfl, if_pos hil]
        simp [hes']
      · rw [if_neg e', ← hj]
        cases es.toList[j]? with
        | none => rfl
        | some y => simp [e']
    · obtain ⟨h1, h2, h3⟩ := (MapKept.stamped_iff es clock).1 hst
      have hm : (es.modify i fun e => { e with key := enc k, val := v }).toList.map (·.born) = es.toList.map (·.born) := by
        apply List.ext_getElem?
        intro j
        simp only [Array.toList_modify, List.getElem?_map, List.getElem?_modify]
        cases es.toList[j]? with
        | none => rfl
        | some y => by_cases e' : i = j <;> simp [e']
      have hk : (es.modify i fun e => { e with key := enc k, val := v }).toList.map (·.key) = es.toList.map (·.key) := by
        apply List.ext_getElem?
        intro j
        simp only [Array.toList_modify, List.getElem?_map, List.getElem?_modify]
        by_cases e' : i = j
        · subst e'; rw [hes]; simp [hek]
        · cases es.toList[j]? with
          | none => rfl
          | some y => simp [e']
      refine (MapKept.stamped_iff _ _).2 ⟨?_, by rw [hm]; exact h2, ?_⟩
      · intro x hx
        have := List.mem_map_of_mem (f := (·.born)) hx
        rw [hm] at this
        obtain ⟨y, hy, e⟩ := List.mem_map.1 this
        rw [← e]; exact h1 y hy
      · rw [← List.pairwise_map (f := fun x : MapEntry => x.key) (R := fun a b => a ≠ b), hk, List.pairwise_map]; exact h3
theorem filter_erase {α : Type} (p : α → Bool) : ∀ (l : List α) (i : Nat), (∀ j y, l[j]? = some y → (p y = false ↔ j = i)) → i < l.length → l.filter p = l.eraseIdx i := by
  intro l
  induction l with
  | nil => intro i _ h; simp at h
  | cons x l ih =>
    intro i h hi
    cases i with
    | zero =>
      have h0 := (h 0 x rfl).2 rfl
      rw [List.filter_cons, h0]
      simp only [Bool.false_eq_true, if_false, List.eraseIdx_zero, List.tail_cons]
      rw [List.filter_eq_self]
      intro y hy
      obtain ⟨j, hj⟩ := List.getElem?_of_mem hy
      cases hp : p y with
      | true => rfl
      | false => have := (h (j + 1) y (by simpa using hj)).1 hp; omega
    | succ i =>
      have h0 : p x = true := by
        cases hp : p x with
        | true => rfl
        | false => have := (h 0 x rfl).1 hp; omega
      rw [List.filter_cons, if_pos h0, List.eraseIdx_cons_succ, ih i (fun j y hj => by
        have := h (j + 1) y (by simpa using hj); rw [this]; omega) (by simpa using hi)]
theorem map_erase {α β : Type} (f : α → β) : ∀ (l : List α) (i : Nat), (l.eraseIdx i).map f = (l.map f).eraseIdx i
  | [], _ => rfl
  | _ :: _, 0 => rfl
  | x :: l, i + 1 => by simp [map_erase f l i]
theorem run_deleteZ {K : TypeId} (L : KeyLaw P K enc) (h : MapZ enc w b l) (T E ty : TypeId) (hT : P.underlying T = some (.map K E)) (k : κ) :
    ∃ w', (Builtin.delete_ #[T, K] ty #[.map (some b), enc k]).run P w = .ok (.tuple #[]) w' ∧ MapZ enc w' b (delK l k) ∧ w.grownBy w' (some b) ∧ w'.heap.size = w.heap.size := by
  have hnd := h.nodup
  obtain ⟨es, clock, hb, he, hst⟩ := h
  have hf := L.find k es.toList l w he
  have hgrown : ∀ o : Obj, w.grownBy { w with heap := w.heap.setIfInBounds b o } (some b) := fun o =>
    ⟨rfl, rfl, rfl, by simp, fun i hi hne => by
      show (w.heap.setIfInBounds b o)[i]? = _
      rw [Array.getElem?_setIfInBounds, if_neg (fun e => hne (by rw [e]))]⟩
  have hget : ∀ o : Obj, ({ w with heap := w.heap.setIfInBounds b o } : World).heap[b]? = some o := fun o => by
    show (w.heap.setIfInBounds b o)[b]? = _
    rw [Array.getElem?_setIfInBounds, if_pos rfl, if_pos (blk_lt hb)]
  cases hfi : findK l k 0 with
  | none =>
    refine ⟨_, by simp [Builtin.delete_, run_underlying hT, MapKept.run_getObj_map hb, L.check, hf, hfi, MapKept.run_setObj_map _ hb], ⟨_, _, hget _, ?_, hst⟩, hgrown _, by simp⟩
    have : delK l k = l := by
      unfold delK; rw [List.filter_eq_self]; intro p hp; simpa using findK_none.1 hfi p hp
    rw [this]; exact he
  | some p =>
    obtain ⟨i, v0⟩ := p
    obtain ⟨_, hi⟩ := findK_lt hfi
    rw [Nat.sub_zero] at hi
    have hil : i < l.length := (List.getElem?_eq_some_iff.1 hi).1
    have hlen : es.size = l.length := by have := congrArg List.length he; simpa using this
    have hdel : delK l k = l.eraseIdx i := by
      refine filter_erase _ l i (fun j y hj => ?_) hil
      constructor
      · intro e
        have e : y.1 = k := by simpa using e
        have h1 : (l.map (·.1))[j]? = some k := by rw [List.getElem?_map, hj]; simp [e]
        have h2 : (l.map (·.1))[i]? = some k := by rw [List.getElem?_map, hi]; rfl
        obtain ⟨hj1, hj2⟩ := List.getElem?_eq_some_iff.1 h1
        obtain ⟨hi1, hi2⟩ := List.getElem?_eq_some_iff.1 h2
        exact (List.getElem_inj hnd).1 (hj2.trans hi2.symm)
      · rintro rfl
        rw [hi] at hj; injection hj with hj; rw [← hj]; simp
    refine ⟨{ w with heap := w.heap.setIfInBounds b (.map (es.eraseIdxIfInBounds i) clock) }, by simp [Builtin.delete_, run_underlying hT, MapKept.run_getObj_map hb, L.check, hf, hfi, MapKept.run_setObj_map _ hb], ⟨_, _, hget _, ?_, ?_⟩, hgrown _, by simp⟩
    · rw [hdel]
      have e1 : (es.eraseIdxIfInBounds i).toList = es.toList.eraseIdx i := by
        unfold Array.eraseIdxIfInBounds
        rw [dif_pos (by omega)]; simp
      rw [e1, map_erase, he, map_erase]
    · obtain ⟨h1, h2, h3⟩ := (MapKept.stamped_iff es clock).1 hst
      have e1 : (es.eraseIdxIfInBounds i).toList = es.toList.eraseIdx i := by
        unfold Array.eraseIdxIfInBounds
        rw [dif_pos (by omega)]; simp
      have hsub : ((es.eraseIdxIfInBounds i).toList).Sublist es.toList := by rw [e1]; exact List.eraseIdx_sublist _ _
      exact (MapKept.stamped_iff _ _).2 ⟨fun x hx => h1 x (hsub.subset hx), h2.sublist (hsub.map _), h3.sublist hsub⟩
end
section
variable {κ : Type} {enc : κ → Value} {w w1 : World} {b : Nat} {l : List (κ × Value)} {P : Program}
theorem run_lenZ (h : MapZ enc w b l) (T ty K E : TypeId) (hT : P.underlying T = some (.map K E)) : (Builtin.len_ #[T] ty #[.map (some b)]).run P w = .ok (.int .i64 (l.length : Int)) w := by
  obtain ⟨es, clock, hb, he, _⟩ := h
  have hlen : es.size = l.length := by have := congrArg List.length he; simpa using this
  simp [Builtin.len_, run_underlying hT, MapKept.run_getObj_map hb, hlen, goInt]
/-- A map that is ranged over: these entries have come, these are still to come. -/
def IterZ (enc : κ → Value) (w : World) (it b : Nat) (l dn rest : List (κ × Value)) : Prop :=
  ∃ (es : Array MapEntry) (clock since : Nat) (seen : Array Nat) (c0 : Nat), w.heap[b]? = some (.map es clock) ∧ es.toList.map (fun e => (e.key, e.val)) = l.map (fun p => (enc p.1, p.2)) ∧ MapKept.Stamped es clock ∧
    w.heap[it]? = some (.mapIter (some b) since seen c0) ∧ (∀ x ∈ es.toList, x.born < since) ∧ since ≤ c0 ∧ since ≤ clock ∧
    (leftOf es seen).toList.map (fun e => (e.key, e.val)) = rest.map (fun p => (enc p.1, p.2)) ∧ (dn ++ rest).Perm l
theorem IterZ.map {it : Nat} {dn rest : List (κ × Value)} (h : IterZ enc w it b l dn rest) : MapZ enc w b l := by
  obtain ⟨es, clock, _, _, _, hb, he, hs, _⟩ := h
  exact ⟨es, clock, hb, he, hs⟩
theorem IterZ.same {it : Nat} {dn rest : List (κ × Value)} (h : IterZ enc w it b l dn rest) (hb : w1.heap[b]? = w.heap[b]?) (hi : w1.heap[it]? = w.heap[it]?) : IterZ enc w1 it b l dn rest := by
  obtain ⟨es, clock, since, seen, c0, h1, h2, h3, h4, r⟩ := h
  exact ⟨es, clock, since, seen, c0, hb.trans h1, h2, h3, hi.trans h4, r⟩
theorem IterZ.lt {it : Nat} {dn rest : List (κ × Value)} (h : IterZ enc w it b l dn rest) : it < w.heap.size ∧ b < w.heap.size := by
  obtain ⟨es, clock, since, seen, c0, h1, h2, h3, h4, r⟩ := h
  exact ⟨blk_lt h4, blk_lt h1⟩
theorem IterZ.below {it : Nat} {dn rest : List (κ × Value)} (h : IterZ enc w it b l dn rest) (hb : Below w.heap.size w w1) : IterZ enc w1 it b l dn rest := h.same (hb.block _ h.lt.2) (hb.block _ h.lt.1)
theorem run_rangeZ (h : MapZ enc w b l) (T K E : TypeId) (hT : P.underlying T = some (.map K E)) :
    ∃ o, (Instr.range T (.map (some b))).run P w = .ok (.pointer (some ⟨w.heap.size, 0, none⟩)) (w.alloc o) ∧ IterZ enc (w.alloc o) w.heap.size b l [] l := by
  obtain ⟨es, clock, hb, he, hs⟩ := h
  refine ⟨.mapIter (some b) clock #[] clock, by simp [Instr.range, run_underlying hT, MapKept.run_getObj_map hb, newObj]; rfl, es, clock, clock, #[], clock, blk_alloc hb _, he, hs, heap_alloc_new w _, ((MapKept.stamped_iff es clock).1 hs).1, Nat.le_refl _, Nat.le_refl _, ?_, List.Perm.refl _⟩
  have : leftOf es #[] = es := by unfold leftOf; simp
  rw [this]; exact he
theorem erase_perm {α : Type} : ∀ (l : List α) (i : Nat) (h : i < l.length), (l[i] :: l.eraseIdx i).Perm l
  | x :: l, 0, _ => List.Perm.refl _
  | x :: l, i + 1, h => (List.Perm.swap x (l[i]'(by simpa using h)) _).trans ((erase_perm l i (by simpa using h)).cons x)
/-- The next entry: none is left, or one that is left comes. -/
theorem run_nextZ {it : Nat} {dn rest : List (κ × Value)} (h : IterZ enc w it b l dn rest) (ty : TypeId) :
    (rest = [] ∧ (Instr.next (.pointer (some ⟨it, 0, none⟩)) false ty).run P w = .ok (.tuple #[.bool false]) w) ∨
    ∃ (i : Nat) (p : κ × Value) (w' : World), rest[i]? = some p ∧ (Instr.next (.pointer (some ⟨it, 0, none⟩)) false ty).run P w = .ok (.tuple #[.bool true, enc p.1, p.2]) w' ∧
      IterZ enc w' it b l (dn ++ [p]) (rest.eraseIdx i) ∧ w.grownBy w' (some it) ∧ w'.heap.size = w.heap.size ∧
      (Instr.entry (.pointer (some ⟨it, 0, none⟩))).run P w' = .ok (.tuple #[enc p.1, p.2]) w' := by
  obtain ⟨es, clock, since, seen, c0, hb, he, hs, hit, hold, hsc, hsk, hrest, hperm⟩ := h
  have hne : it ≠ b := by rintro rfl; rw [hb] at hit; cases hit
  rcases run_next_at (P := P) w ty it b since c0 seen es clock hit hb hold hsc with ⟨h0, hrun⟩ | ⟨e, hel, w0, hw0, hrun⟩
  · refine .inl ⟨?_, hrun⟩
    have : (leftOf es seen).toList = [] := by
      apply List.eq_nil_of_length_eq_zero; simpa using h0
    rw [this] at hrest
    cases rest with
    | nil => rfl
    | cons p r => simp at hrest
  · obtain ⟨hem, hes⟩ := mem_left hel
    obtain ⟨i, hi⟩ := List.getElem?_of_mem hel
    obtain ⟨p, hp, hk, hv⟩ := map_at' hrest hi
    obtain ⟨h1, h2, h3⟩ := (MapKept.stamped_iff es clock).1 hs
    have hb0 : w0.heap[b]? = some (.map es clock) := by rcases hw0 with rfl | rfl <;> exact hb
    have hit0 : w0.heap[it]? = some (.mapIter (some b) since seen c0) := by rcases hw0 with rfl | rfl <;> exact hit
    have hset := MapKept.heap_set (o' := .mapIter (some b) since (seen.push e.born) clock) hit0
    have hbn : (setBlock w0 it (.mapIter (some b) since (seen.push e.born) clock)).heap[b]? = some (.map es clock) := (hset.2 b (fun e1 => hne e1.symm)).trans hb0
    have hleft : (leftOf es (seen.push e.born)).toList = (leftOf es seen).toList.eraseIdx i := by
      have e1 : leftOf es (seen.push e.born) = (leftOf es seen).filter (fun x => !(x.born == e.born)) := by
        unfold leftOf
        rw [Array.filter_filter]
        congr 1
        funext x
        rw [contains_push]
        cases seen.contains x.born <;> cases (x.born == e.born) <;> rfl
      rw [e1, Array.toList_filter]
      refine filter_erase _ _ i (fun j y hj => ?_) (List.getElem?_eq_some_iff.1 hi).1
      have hsub : ((leftOf es seen).toList.map (·.born)).Nodup := by
        have : ((leftOf es seen).toList).Sublist es.toList := by unfold leftOf; rw [Array.toList_filter]; exact List.filter_sublist
        exact h2.sublist (this.map _)
      constructor
      · intro hy
        have hy : y.born = e.born := by simpa using hy
        have k1 : ((leftOf es seen).toList.map (·.born))[j]? = some e.born := by rw [List.getElem?_map, hj]; simp [hy]
        have k2 : ((leftOf es seen).toList.map (·.born))[i]? = some e.born := by rw [List.getElem?_map, hi]; rfl
        obtain ⟨hj1, hj2⟩ := List.getElem?_eq_some_iff.1 k1
        obtain ⟨hi1, hi2⟩ := List.getElem?_eq_some_iff.1 k2
        exact (List.getElem_inj hsub).1 (hj2.trans hi2.symm)
      · rintro rfl
        rw [hi] at hj; injection hj with hj; rw [← hj]; simp
    have hgrown : w.grownBy (setBlock w0 it (.mapIter (some b) since (seen.push e.born) clock)) (some it) := by
      rcases hw0 with rfl | rfl <;> exact ⟨rfl, rfl, rfl, by simp [setBlock], fun i _ hi => hset.2 i (fun e1 => hi (by rw [e1]))⟩
    refine .inr ⟨i, p, _, hp, by rw [hrun, hk, hv], ⟨es, clock, since, seen.push e.born, clock, hbn, he, hs, hset.1, hold, hsk, hsk, ?_, ?_⟩, hgrown, ?_, ?_⟩
    · rw [hleft, map_erase, hrest, map_erase]
    · obtain ⟨hil, hpi⟩ := List.getElem?_eq_some_iff.1 hp
      refine List.Perm.trans ?_ hperm
      rw [List.append_assoc]
      refine List.Perm.append_left _ ?_
      rw [← hpi]
      exact erase_perm rest i hil
    · rcases hw0 with rfl | rfl <;> simp [setBlock]
    · rw [← hk, ← hv]
      exact run_entry_at _ it b since seen es clock e hset.1 hbn hem h2
end
section
variable {κ : Type} [DecidableEq κ] {enc : κ → Value} {w : World} {b : Nat} {l : List (κ × Value)} {P : Program} {ops : Array Oper} {rest : List Oper} {o : Oper} {a : Act} {Q : Exit → Act → World → Prop}
theorem wp_lookupZ {K' : Act → World → Prop} {K : TypeId} (L : KeyLaw P K enc) (m x : Operand) (T : TypeId) (ok : Bool) (hop : o.op = .lookup T m x ok)
    (E : TypeId) (hT : P.underlying T = some (.map K E)) (z : Value) (hz : (zeroValue E).run P w = .ok z w) (k : κ) (hm : a.eval m = .map (some b)) (hx : a.eval x = enc k) (h : MapZ enc w b l)
    (hK' : K' (a.put o.dst (if ok then .tuple #[(lookK l k).getD z, .bool (lookK l k).isSome] else (lookK l k).getD z)) w) : Oper.wp P o a w K' Q := by
  unfold Oper.wp execOp
  simp only [hop, hm, hx, Sem.run_bind, run_lookupZ L h T E hT z hz k ok, Result.andThen_ok, Sem.run_pure]
  exact hK'
theorem wpList_lookupZ {K : TypeId} (L : KeyLaw P K enc) (hgd : o.guard = none) (m x : Operand) (T : TypeId) (ok : Bool) (hop : o.op = .lookup T m x ok)
    (E : TypeId) (hT : P.underlying T = some (.map K E)) (z : Value) (hz : (zeroValue E).run P w = .ok z w) (k : κ) (hm : a.eval m = .map (some b)) (hx : a.eval x = enc k) (h : MapZ enc w b l)
    (hK' : wpList P ops Q rest (a.put o.dst (if ok then .tuple #[(lookK l k).getD z, .bool (lookK l k).isSome] else (lookK l k).getD z)) w) : wpList P ops Q (o :: rest) a w :=
  wpList_plain hgd fun _ hKK => wp_lookupZ L m x T ok hop E hT z hz k hm hx h (hKK _ _ hK')
theorem wp_updateZ {K' : Act → World → Prop} {K : TypeId} (L : KeyLaw P K enc) (m x y : Operand) (T : TypeId) (hop : o.op = .mapUpdate T m x y)
    (E : TypeId) (hT : P.underlying T = some (.map K E)) (k : κ) (v : Value) (hm : a.eval m = .map (some b)) (hx : a.eval x = enc k) (hy : a.eval y = v) (h : MapZ enc w b l)
    (hK' : ∀ w', MapZ enc w' b (putK l k v) → w.grownBy w' (some b) → w'.heap.size = w.heap.size → K' (a.put o.dst undef) w') : Oper.wp P o a w K' Q := by
  obtain ⟨w', hr, h1, h2, h3⟩ := run_updateZ (P := P) L h T E hT k v
  unfold Oper.wp execOp
  simp only [hop, hm, hx, hy, Sem.run_bind, hr, Result.andThen_ok, Sem.run_pure]
  exact hK' w' h1 h2 h3
theorem wpList_updateZ {K : TypeId} (L : KeyLaw P K enc) (hgd : o.guard = none) (m x y : Operand) (T : TypeId) (hop : o.op = .mapUpdate T m x y)
    (E : TypeId) (hT : P.underlying T = some (.map K E)) (k : κ) (v : Value) (hm : a.eval m = .map (some b)) (hx : a.eval x = enc k) (hy : a.eval y = v) (h : MapZ enc w b l)
    (hK' : ∀ w', MapZ enc w' b (putK l k v) → w.grownBy w' (some b) → w'.heap.size = w.heap.size → wpList P ops Q rest (a.put o.dst undef) w') : wpList P ops Q (o :: rest) a w :=
  wpList_plain hgd fun _ hKK => wp_updateZ L m x y T hop E hT k v hm hx hy h fun w' h1 h2 h3 => hKK _ _ (hK' w' h1 h2 h3)
theorem wpList_deleteZ {K : TypeId} (L : KeyLaw P K enc) (hgd : o.guard = none) (m x : Operand) (T : TypeId) (hop : o.op = .call { callee := .builtin .delete, args := #[m, x], argTypes := #[T, K] })
    (E : TypeId) (hT : P.underlying T = some (.map K E)) (k : κ) (hm : a.eval m = .map (some b)) (hx : a.eval x = enc k) (h : MapZ enc w b l)
    (hK' : ∀ w', MapZ enc w' b (delK l k) → w.grownBy w' (some b) → w'.heap.size = w.heap.size → wpList P ops Q rest (a.put o.dst (.tuple #[])) w') : wpList P ops Q (o :: rest) a w := by
  refine wpList_plain hgd fun K' hKK => ?_
  obtain ⟨w', hr, h1, h2, h3⟩ := run_deleteZ (P := P) L h T E o.type hT k
  unfold Oper.wp execOp
  simp only [hop, resolve, invoke, builtin, Sem.run_bind, Sem.run_pure, Result.andThen_ok, List.map_toArray, List.map_cons, List.map_nil, hm, hx, hr]
  exact hKK _ _ (hK' w' h1 h2 h3)
end
section
variable {κ : Type} {enc : κ → Value} {w : World} {b : Nat} {l : List (κ × Value)} {P : Program} {ops : Array Oper} {rest : List Oper} {o : Oper} {a : Act} {Q : Exit → Act → World → Prop}
theorem wpList_rangeZ (hgd : o.guard = none) (m : Operand) (T : TypeId) (hop : o.op = .range T m) (K E : TypeId) (hT : P.underlying T = some (.map K E)) (hm : a.eval m = .map (some b)) (h : MapZ enc w b l)
    (hK' : ∀ ob, IterZ enc (w.alloc ob) w.heap.size b l [] l → wpList P ops Q rest (a.put o.dst (.pointer (some ⟨w.heap.size, 0, none⟩))) (w.alloc ob)) : wpList P ops Q (o :: rest) a w := by
  refine wpList_plain hgd fun K' hKK => ?_
  obtain ⟨ob, hr, h1⟩ := run_rangeZ (P := P) h T K E hT
  unfold Oper.wp execOp
  simp only [hop, hm, Sem.run_bind, hr, Result.andThen_ok, Sem.run_pure]
  exact hKK _ _ (hK' ob h1)
theorem wpList_nextZ (hgd : o.guard = none) (x : Operand) (hop : o.op = .next x false) {it : Nat} {dn left : List (κ × Value)} (hx : a.eval x = .pointer (some ⟨it, 0, none⟩)) (h : IterZ enc w it b l dn left)
    (hDone : left = [] → wpList P ops Q rest (a.put o.dst (.tuple #[.bool false])) w)
    (hMore : ∀ (i : Nat) (p : κ × Value) (w' : World), left[i]? = some p → IterZ enc w' it b l (dn ++ [p]) (left.eraseIdx i) → w.grownBy w' (some it) → w'.heap.size = w.heap.size →
      (Instr.entry (.pointer (some ⟨it, 0, none⟩))).run P w' = .ok (.tuple #[enc p.1, p.2]) w' → wpList P ops Q rest (a.put o.dst (.tuple #[.bool true, enc p.1, p.2])) w') : wpList P ops Q (o :: rest) a w := by
  refine wpList_plain hgd fun K' hKK => ?_
  rcases run_nextZ (P := P) h o.type with ⟨h0, hr⟩ | ⟨i, p, w', hp, hr, h1, h2, h3, h4⟩
  · unfold Oper.wp execOp
    simp only [hop, hx, Sem.run_bind, hr, Result.andThen_ok, Sem.run_pure]
    exact hKK _ _ (hDone h0)
  · unfold Oper.wp execOp
    simp only [hop, hx, Sem.run_bind, hr, Result.andThen_ok, Sem.run_pure]
    exact hKK _ _ (hMore i p w' hp h1 h2 h3 h4)
end
/-- The keys of kind int. -/
theorem int_keys {P : Program} {K : TypeId} (hK : P.underlying K = some (.int .i64)) : KeyLaw P K (Value.int .i64) where
  check em k w := MapKept.run_checkKey hK (by simp [MapKept.IsKey]) em 9999
  find k es l w h := by
    have key : ∀ (es : List MapEntry) (l : List (Int × Value)) (j : Nat), es.map (fun e => (e.key, e.val)) = l.map (fun p => (Value.int .i64 p.1, p.2)) →
        Instr.findNow (.int .i64) (.int .i64 k) es j = some (findK l k j) := by
      intro es
      induction es with
      | nil => intro l j h; cases l with
        | nil => rfl
        | cons p l => simp at h
      | cons e es ih =>
        intro l j h
        cases l with
        | nil => simp at h
        | cons p l =>
          simp only [List.map_cons, List.cons.injEq, Prod.mk.injEq] at h
          obtain ⟨⟨h1, h2⟩, h3⟩ := h
          have hi := ih l (j + 1) h3
          simp only [Instr.findNow, h1, Instr.sameNow, if_true, findK]
          by_cases hk : p.1 = k
          · subst hk; simp [h2]
          · have h4 : (k == p.1) = false := by simp; exact fun e => hk e.symm
            simp only [h4, hi, if_neg hk]
    have := key es l 0 h
    simp only [Instr.findKey, Sem.run_bind, run_underlying hK, Result.andThen_ok, this, Sem.run_pure]
  stays k w := by simp [Instr.keyThatStays, Instr.sameBits]
  inj a b h := by injection h
section
variable {κ : Type} [DecidableEq κ] {l : List (κ × Value)} {k k' : κ} {v : Value}
theorem findK_some {l : List (κ × Value)} {k : κ} {p : κ × Value} (hn : (l.map (·.1)).Nodup) (hp : p ∈ l) (hk : p.1 = k) : lookK l k = some p.2 := by
  unfold lookK
  cases h : findK l k 0 with
  | none => exact absurd hk (findK_none.1 h p hp)
  | some q =>
    obtain ⟨i, v⟩ := q
    obtain ⟨_, h2⟩ := findK_lt h
    rw [Nat.sub_zero] at h2
    obtain ⟨j, hj⟩ := List.getElem?_of_mem hp
    have k1 : (l.map (·.1))[j]? = some k := by rw [List.getElem?_map, hj]; simp [hk]
    have k2 : (l.map (·.1))[i]? = some k := by rw [List.getElem?_map, h2]; rfl
    obtain ⟨hj1, hj2⟩ := List.getElem?_eq_some_iff.1 k1
    obtain ⟨hi1, hi2⟩ := List.getElem?_eq_some_iff.1 k2
    have e := (List.getElem_inj hn).1 (hj2.trans hi2.symm)
    subst e
    rw [hj] at h2
    injection h2 with h2
    rw [h2]; rfl
theorem lookK_none : lookK l k = none ↔ ∀ p, p ∈ l → p.1 ≠ k := by
  unfold lookK; rw [Option.map_eq_none_iff, findK_none]
theorem lookK_mem {v : Value} (h : lookK l k = some v) : (k, v) ∈ l := by
  unfold lookK at h
  obtain ⟨q, h1, h2⟩ := Option.map_eq_some_iff.1 h
  obtain ⟨i, u⟩ := q
  obtain ⟨_, h3⟩ := findK_lt h1
  simp only at h2
  subst h2
  exact List.mem_of_getElem? h3
theorem putK_new (h : lookK l k = none) (v : Value) : putK l k v = l ++ [(k, v)] := by
  unfold lookK at h; rw [Option.map_eq_none_iff] at h; unfold putK; rw [h]
end
end Go.Proofs.Ytdjmjdfkblhgdaa
