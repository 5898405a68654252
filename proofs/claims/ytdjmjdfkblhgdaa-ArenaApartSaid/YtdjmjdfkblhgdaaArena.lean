/- An arena in memory; New, find, cell, Set, Get, Len, Base, Left: what each computes. -/
import Derived.Test.YtdjmjdfkblhgdaaSorted
import Derived.Test.YtdjmjdfkblhgdaaMeter
import Derived.Lib.MinMax
namespace Go.Proofs.Ytdjmjdfkblhgdaa
open Go.RowKit
/-- Where an arena's parts lie: itself, its cells, its map, its meter. -/
structure Fp where
  a : Nat
  c : Nat
  m : Nat
  t : Option Nat
def tAddr (t : Option Nat) : Option Addr := t.map fun b => ⟨b, 0, none⟩
def arCells (f : Fp) (S : PA) : Array Value := #[.pointer (tAddr f.t), .slice (some ⟨f.c, 0, none⟩) S.size S.size, .map (some f.m), .int .i64 (S.last : Int), .int .i64 (S.left : Int)]
def iCells (l : List Int) : Array Value := (l.map (Value.int .i64)).toArray
def MtOpt (w : World) : Option Nat → Option Mt → Prop
  | none, none => True
  | some t, some m => MtAt w t m
  | _, _ => False
structure ArenaAt (w : World) (f : Fp) (S : PA) : Prop where
  ba : w.heap[f.a]? = some (.cells (arCells f S) 79 (0, 0))
  bc : w.heap[f.c]? = some (.cells (iCells S.cells) 3 (0, 0))
  bm : MapZ (Value.int .i64) w f.m (regMap S.regs)
  bt : MtOpt w f.t S.mt
  wf : WF S
  la : S.last ≤ 1099511627776
/-- Nothing but the arena's own parts may have turned. -/
structure Mv (f : Fp) (w w' : World) : Prop where
  os : w'.os = w.os
  tape : w'.tape = w.tape
  output : w'.output = w.output
  size : w.heap.size ≤ w'.heap.size
  block : ∀ k, k < w.heap.size → k ≠ f.a → k ≠ f.c → k ≠ f.m → f.t ≠ some k → w'.heap[k]? = w.heap[k]?
theorem Mv.refl (f : Fp) (w : World) : Mv f w w := ⟨rfl, rfl, rfl, Nat.le_refl _, fun _ _ _ _ _ _ => rfl⟩
theorem Mv.trans {f : Fp} {a b c : World} (h : Mv f a b) (k : Mv f b c) : Mv f a c :=
  ⟨k.os.trans h.os, k.tape.trans h.tape, k.output.trans h.output, Nat.le_trans h.size k.size, fun i hi h1 h2 h3 h4 => (k.block i (Nat.lt_of_lt_of_le hi h.size) h1 h2 h3 h4).trans (h.block i hi h1 h2 h3 h4)⟩
theorem Mv.of_below (f : Fp) {w w' : World} (h : Below w.heap.size w w') : Mv f w w' := ⟨h.os, h.tape, h.output, h.size, fun k hk _ _ _ _ => h.block k hk⟩
theorem Mv.of_grown (f : Fp) {w w' : World} {b : Nat} (h : w.grownBy w' (some b)) (hb : b = f.a ∨ b = f.c ∨ b = f.m ∨ f.t = some b) : Mv f w w' :=
  ⟨h.os, h.tape, h.output, h.size, fun k hk h1 h2 h3 h4 => h.block k hk (fun e => by injection e with e; subst e; rcases hb with e | e | e | e <;> contradiction)⟩
/-- All parts from B on. -/
def Fp.from (f : Fp) (B : Nat) : Prop := B ≤ f.a ∧ B ≤ f.c ∧ B ≤ f.m ∧ ∀ t, f.t = some t → B ≤ t
theorem Mv.below {f : Fp} {B : Nat} {w0 w w' : World} (h : Mv f w w') (hf : f.from B) (hb : Below B w0 w) (hB : B ≤ w.heap.size) : Below B w0 w' :=
  ⟨h.os.trans hb.os, h.tape.trans hb.tape, h.output.trans hb.output, Nat.le_trans hb.size h.size, fun k hk => (h.block k (by omega) (by have := hf.1; omega) (by have := hf.2.1; omega) (by have := hf.2.2.1; omega) (fun e => by have := hf.2.2.2 k e; omega)).trans (hb.block k hk)⟩
theorem ArenaAt.lt {w : World} {f : Fp} {S : PA} (h : ArenaAt w f S) : f.a < w.heap.size ∧ f.c < w.heap.size ∧ f.m < w.heap.size ∧ ∀ t, f.t = some t → t < w.heap.size := by
  refine ⟨blk_lt h.ba, blk_lt h.bc, h.bm.lt, fun t e => ?_⟩
  have := h.bt
  rw [e] at this
  cases hm : S.mt with
  | none => rw [hm] at this; exact this.elim
  | some m => rw [hm] at this; exact blk_lt this
theorem MtOpt.same {w w1 : World} {t : Option Nat} {m : Option Mt} (h : MtOpt w t m) (hs : ∀ b, t = some b → w1.heap[b]? = w.heap[b]?) : MtOpt w1 t m := by
  cases t with
  | none => cases m <;> exact h
  | some t => cases m with
    | none => exact h
    | some m => exact (hs t rfl).trans h
theorem ArenaAt.below {w w1 : World} {f : Fp} {S : PA} (h : ArenaAt w f S) (hb : Below w.heap.size w w1) : ArenaAt w1 f S :=
  ⟨blk_below h.ba hb, blk_below h.bc hb, h.bm.below hb, h.bt.same fun b e => hb.block b (h.lt.2.2.2 b e), h.wf, h.la⟩
/-- Apart from another arena's parts. -/
structure Fp.off (f g : Fp) : Prop where
  a : f.a ≠ g.a ∧ f.a ≠ g.c ∧ f.a ≠ g.m ∧ g.t ≠ some f.a
  c : f.c ≠ g.a ∧ f.c ≠ g.c ∧ f.c ≠ g.m ∧ g.t ≠ some f.c
  m : f.m ≠ g.a ∧ f.m ≠ g.c ∧ f.m ≠ g.m ∧ g.t ≠ some f.m
  t : ∀ t, f.t = some t → t ≠ g.a ∧ t ≠ g.c ∧ t ≠ g.m ∧ g.t ≠ some t
theorem ArenaAt.other {w w1 : World} {f g : Fp} {S : PA} (h : ArenaAt w f S) (hg : Mv g w w1) (ho : f.off g) : ArenaAt w1 f S := by
  have hl := h.lt
  refine ⟨(hg.block _ hl.1 ho.a.1 ho.a.2.1 ho.a.2.2.1 ho.a.2.2.2).trans h.ba, (hg.block _ hl.2.1 ho.c.1 ho.c.2.1 ho.c.2.2.1 ho.c.2.2.2).trans h.bc,
    h.bm.same (hg.block _ hl.2.2.1 ho.m.1 ho.m.2.1 ho.m.2.2.1 ho.m.2.2.2), h.bt.same fun b e => ?_, h.wf, h.la⟩
  have := ho.t b e
  exact hg.block b (hl.2.2.2 b e) this.1 this.2.1 this.2.2.1 this.2.2.2
theorem off_of {f g : Fp} {B : Nat} (hf : f.from B) (hg : g.a < B ∧ g.c < B ∧ g.m < B ∧ ∀ t, g.t = some t → t < B) : f.off g ∧ g.off f := by
  obtain ⟨f1, f2, f3, f4⟩ := hf
  obtain ⟨g1, g2, g3, g4⟩ := hg
  refine ⟨⟨⟨by omega, by omega, by omega, fun e => by have := g4 _ e; omega⟩, ⟨by omega, by omega, by omega, fun e => by have := g4 _ e; omega⟩, ⟨by omega, by omega, by omega, fun e => by have := g4 _ e; omega⟩, fun t e => ?_⟩,
    ⟨⟨by omega, by omega, by omega, fun e => by have := f4 _ e; omega⟩, ⟨by omega, by omega, by omega, fun e => by have := f4 _ e; omega⟩, ⟨by omega, by omega, by omega, fun e => by have := f4 _ e; omega⟩, fun t e => ?_⟩⟩
  · have := f4 t e
    exact ⟨by omega, by omega, by omega, fun e => by have := g4 _ e; omega⟩
  · have := g4 t e
    exact ⟨by omega, by omega, by omega, fun e => by have := f4 _ e; omega⟩
theorem ArenaAt.c0 {w : World} {f : Fp} {S : PA} (h : ArenaAt w f S) : w.cell? ⟨f.a, 0, none⟩ = some (.pointer (tAddr f.t)) := cell_of_row _ _ 0 _ _ _ h.ba
theorem ArenaAt.c1 {w : World} {f : Fp} {S : PA} (h : ArenaAt w f S) : w.cell? ⟨f.a, 1, none⟩ = some (.slice (some ⟨f.c, 0, none⟩) S.size S.size) := cell_of_row _ _ 1 _ _ _ h.ba
theorem ArenaAt.c2 {w : World} {f : Fp} {S : PA} (h : ArenaAt w f S) : w.cell? ⟨f.a, 2, none⟩ = some (.map (some f.m)) := cell_of_row _ _ 2 _ _ _ h.ba
theorem ArenaAt.c3 {w : World} {f : Fp} {S : PA} (h : ArenaAt w f S) : w.cell? ⟨f.a, 3, none⟩ = some (.int .i64 (S.last : Int)) := cell_of_row _ _ 3 _ _ _ h.ba
theorem ArenaAt.c4 {w : World} {f : Fp} {S : PA} (h : ArenaAt w f S) : w.cell? ⟨f.a, 4, none⟩ = some (.int .i64 (S.left : Int)) := cell_of_row _ _ 4 _ _ _ h.ba
theorem eqlA (p : Nat) (w : World) : (binOp .eql 25 (.pointer (some ⟨p, 0, none⟩)) (.pointer none)).run Try.prog w = .ok (.bool false) w := by kernel_rfl
theorem left_any {w : World} {f : Fp} {S : PA} (h : ArenaAt w f S) : Calls Try.prog 19 #[.pointer (some ⟨f.a, 0, none⟩)] w fun e w' => e = .returned (.int .i64 (S.left : Int)) ∧ w = w' := by
  have c4 := h.c4
  clear h
  go_enter Try.func19, Try.ntmps19
  go_wp2
  go_returns
  exact ⟨rfl, rfl⟩
theorem left_nil (w : World) : Calls Try.prog 19 #[.pointer none] w fun e w' => e = .returned (.int .i64 0) ∧ w = w' := by
  go_enter Try.func19, Try.ntmps19
  go_wp2
  go_returns
  exact ⟨rfl, rfl⟩
theorem look_regs (rs : List Reg) (id : Int) : lookK (regMap rs) id = (rs.find? fun r => decide ((r.id : Int) = id)).map fun r => regVal (r.base, r.n) := by
  have key : ∀ (rs : List Reg) (j : Nat), (findK (regMap rs) id j).map (·.2) = (rs.find? fun r => decide ((r.id : Int) = id)).map fun r => regVal (r.base, r.n) := by
    intro rs
    induction rs with
    | nil => intro j; rfl
    | cons r rs ih =>
      intro j
      show ((if (r.id : Int) = id then some (j, regVal (r.base, r.n)) else findK (regMap rs) id (j + 1)).map (·.2)) = _
      rw [List.find?_cons]
      by_cases h : (r.id : Int) = id
      · simp [h]
      · simp only [h, if_false, decide_false]; exact ih _
  exact key rs 0
theorem zeroR (w : World) : (zeroValue 82).run Try.prog w = .ok (.agg #[.int .i64 0, .int .i64 0]) w := by kernel_rfl
theorem keysR : KeyLaw Try.prog 3 (Value.int .i64) := int_keys (by kernel_rfl)
def findRes (o : Option Reg) : Value := match o with
  | some r => .tuple #[regVal (r.base, r.n), .int .i64 0]
  | none => .tuple #[.agg #[.int .i64 0, .int .i64 0], .int .i64 7]
set_option maxHeartbeats 1000000 in
theorem find_some {w : World} {f : Fp} {S : PA} (h : ArenaAt w f S) (id : Int) (r : Reg) (hf : findP S id = some r) :
    Calls Try.prog 49 #[.pointer (some ⟨f.a, 0, none⟩), .int .i64 id] w fun e w' => e = .returned (.tuple #[regVal (r.base, r.n), .int .i64 0]) ∧ Below w.heap.size w w' := by
  have c2 := fun o => (h.below ((Below.refl _ _).alloc (Nat.le_refl _) o)).c2
  have hm := h.bm
  have hl : lookK (regMap S.regs) id = some (.agg #[.int .i64 (r.base : Int), .int .i64 (r.n : Int)]) := by
    rw [look_regs]; unfold findP at hf; rw [hf]; rfl
  have hz := zeroR
  unfold regVal
  clear h
  go_enter Try.func49, Try.ntmps49
  go_wp2_with (at_lookup; refine wpList_lookupZ keysR rfl _ _ 77 true rfl 82 underR _ (hz _) id rfl rfl (hm.below ((Below.refl _ _).alloc (Nat.le_refl _) _)) ?_)
  go_returns
  exact ⟨rfl, ((Below.refl _ _).alloc (Nat.le_refl _) _).alloc (by simp) _⟩
set_option maxHeartbeats 1000000 in
theorem find_none {w : World} {f : Fp} {S : PA} (h : ArenaAt w f S) (id : Int) (hf : findP S id = none) :
    Calls Try.prog 49 #[.pointer (some ⟨f.a, 0, none⟩), .int .i64 id] w fun e w' => e = .returned (.tuple #[.agg #[.int .i64 0, .int .i64 0], .int .i64 7]) ∧ Below w.heap.size w w' := by
  have c2 := fun o => (h.below ((Below.refl _ _).alloc (Nat.le_refl _) o)).c2
  have hm := h.bm
  have hl : lookK (regMap S.regs) id = none := by
    rw [look_regs]; unfold findP at hf; rw [hf]; rfl
  have hz := zeroR
  clear h
  go_enter Try.func49, Try.ntmps49
  go_wp2_with (at_lookup; refine wpList_lookupZ keysR rfl _ _ 77 true rfl 82 underR _ (hz _) id rfl rfl (hm.below ((Below.refl _ _).alloc (Nat.le_refl _) _)) ?_)
  go_returns
  exact ⟨rfl, ((Below.refl _ _).alloc (Nat.le_refl _) _).alloc (by simp) _⟩
theorem find_nil (id : Int) (w : World) :
    Calls Try.prog 49 #[.pointer none, .int .i64 id] w fun e w' => e = .returned (.tuple #[.agg #[.int .i64 0, .int .i64 0], .int .i64 9]) ∧ Below w.heap.size w w' := by
  go_enter Try.func49, Try.ntmps49
  go_wp2
  go_returns
  exact ⟨rfl, (Below.refl _ _).alloc (Nat.le_refl _) _⟩
theorem len_some {w : World} {f : Fp} {S : PA} (h : ArenaAt w f S) (id : Int) (r : Reg) (hf : findP S id = some r) :
    Calls Try.prog 23 #[.pointer (some ⟨f.a, 0, none⟩), .int .i64 id] w fun e w' => e = .returned (.int .i64 (r.n : Int)) ∧ Below w.heap.size w w' := by
  have F := Lib.hid (find_some h id r hf)
  clear h hf
  go_enter Try.func23, Try.ntmps23
  go_wp2_with fail
  refine F.out.mono ?_
  unfold regVal
  rintro e w1 ⟨rfl, hb⟩
  go_wp2
  go_returns
  exact ⟨rfl, hb.alloc hb.size _⟩
theorem len_none {w : World} {f : Fp} {S : PA} (h : ArenaAt w f S) (id : Int) (hf : findP S id = none) :
    Calls Try.prog 23 #[.pointer (some ⟨f.a, 0, none⟩), .int .i64 id] w fun e w' => e = .returned (.int .i64 (-1)) ∧ Below w.heap.size w w' := by
  have F := Lib.hid (find_none h id hf)
  clear h hf
  go_enter Try.func23, Try.ntmps23
  go_wp2_with fail
  refine F.out.mono ?_
  rintro e w1 ⟨rfl, hb⟩
  go_wp2
  go_returns
  exact ⟨rfl, hb.alloc hb.size _⟩
theorem len_any {w : World} {f : Fp} {S : PA} (h : ArenaAt w f S) (id : Int) :
    Calls Try.prog 23 #[.pointer (some ⟨f.a, 0, none⟩), .int .i64 id] w fun e w' => e = .returned (.int .i64 (lenP S id)) ∧ Below w.heap.size w w' := by
  cases hf : findP S id with
  | none => rw [show lenP S id = -1 by unfold lenP; rw [hf]]; exact len_none h id hf
  | some r => rw [show lenP S id = r.n by unfold lenP; rw [hf]]; exact len_some h id r hf
theorem len_nilA (id : Int) (w : World) : Calls Try.prog 23 #[.pointer none, .int .i64 id] w fun e w' => e = .returned (.int .i64 (-1)) ∧ Below w.heap.size w w' := by
  go_enter Try.func23, Try.ntmps23
  go_wp2_with fail
  refine (find_nil id w).mono ?_
  rintro e w1 ⟨rfl, hb⟩
  go_wp2
  go_returns
  exact ⟨rfl, hb.alloc hb.size _⟩
theorem base_some {w : World} {f : Fp} {S : PA} (h : ArenaAt w f S) (id : Int) (r : Reg) (hf : findP S id = some r) :
    Calls Try.prog 20 #[.pointer (some ⟨f.a, 0, none⟩), .int .i64 id] w fun e w' => e = .returned (.int .i64 (r.base : Int)) ∧ Below w.heap.size w w' := by
  have F := Lib.hid (find_some h id r hf)
  clear h hf
  go_enter Try.func20, Try.ntmps20
  go_wp2_with fail
  refine F.out.mono ?_
  unfold regVal
  rintro e w1 ⟨rfl, hb⟩
  go_wp2
  go_returns
  exact ⟨rfl, hb.alloc hb.size _⟩
theorem base_none {w : World} {f : Fp} {S : PA} (h : ArenaAt w f S) (id : Int) (hf : findP S id = none) :
    Calls Try.prog 20 #[.pointer (some ⟨f.a, 0, none⟩), .int .i64 id] w fun e w' => e = .returned (.int .i64 (-1)) ∧ Below w.heap.size w w' := by
  have F := Lib.hid (find_none h id hf)
  clear h hf
  go_enter Try.func20, Try.ntmps20
  go_wp2_with fail
  refine F.out.mono ?_
  rintro e w1 ⟨rfl, hb⟩
  go_wp2
  go_returns
  exact ⟨rfl, hb.alloc hb.size _⟩
theorem base_any {w : World} {f : Fp} {S : PA} (h : ArenaAt w f S) (id : Int) :
    Calls Try.prog 20 #[.pointer (some ⟨f.a, 0, none⟩), .int .i64 id] w fun e w' => e = .returned (.int .i64 (baseP S id)) ∧ Below w.heap.size w w' := by
  cases hf : findP S id with
  | none => rw [show baseP S id = -1 by unfold baseP; rw [hf]]; exact base_none h id hf
  | some r => rw [show baseP S id = r.base by unfold baseP; rw [hf]]; exact base_some h id r hf
theorem base_nilA (id : Int) (w : World) : Calls Try.prog 20 #[.pointer none, .int .i64 id] w fun e w' => e = .returned (.int .i64 (-1)) ∧ Below w.heap.size w w' := by
  go_enter Try.func20, Try.ntmps20
  go_wp2_with fail
  refine (find_nil id w).mono ?_
  rintro e w1 ⟨rfl, hb⟩
  go_wp2
  go_returns
  exact ⟨rfl, hb.alloc hb.size _⟩
end Go.Proofs.Ytdjmjdfkblhgdaa
