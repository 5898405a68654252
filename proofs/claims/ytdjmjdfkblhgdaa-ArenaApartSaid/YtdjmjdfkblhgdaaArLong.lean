/- What is too long to be played; how a list of calls is read; one call as a step. -/
import Derived.Test.YtdjmjdfkblhgdaaArAwake
import Derived.Test.YtdjmjdfkblhgdaaArOpen
namespace Go.Proofs.Ytdjmjdfkblhgdaa
open Go.RowKit
def longP (size : Int) (n : Nat) : Bool := decide (300 < size) || decide (200 < n)
theorem long_any (size : Int) (A : Option Addr) (n c : Nat) (w : World) : Calls Try.prog 14 #[.int .i64 size, .slice A n c] w fun e w' => e = .returned (.bool (longP size n)) ∧ w = w' := by
  unfold longP
  by_cases h : 300 < size
  · have d0 : decide ((300 : Int) < size) = true := by simp [h]
    go_enter Try.func14, Try.ntmps14
    go_wp2
    go_returns
    exact ⟨by simp [h], rfl⟩
  · have d0 : decide ((300 : Int) < size) = false := by simp; omega
    by_cases h2 : 200 < n
    · have d1 : decide ((200 : Int) < (n : Int)) = true := by simp; omega
      go_enter Try.func14, Try.ntmps14
      go_wp2
      go_returns
      exact ⟨by simp, rfl⟩
    · have d1 : decide ((200 : Int) < (n : Int)) = false := by simp; omega
      go_enter Try.func14, Try.ntmps14
      go_wp2
      go_returns
      exact ⟨by simp, rfl⟩
theorem allocP_last (S : PA) (n : Int) : (allocP S n).2.2.last ≤ S.last + 1 := by
  unfold allocP
  split
  · exact Nat.le_succ _
  · split
    · simp
    · split
      · simp [addReg]
      · split <;> simp [addReg]
theorem setP_last (S : PA) (id i v : Int) : (setP S id i v).2.last = S.last := by
  unfold setP
  split <;> rfl
theorem freeP_last (S : PA) (id : Int) : (freeP S id).2.last = S.last := by
  unfold freeP
  split <;> rfl
theorem op_at {w : World} {L B : Nat} {A : Option Addr} {l : List OpV} (h : RowAt w L B A (opsCells l)) {i : Nat} {o : OpV} (hi : l[i]? = some o) :
    ∃ ad, A = some ad ∧ ad.block < B ∧ w.cell? (ad.add (i * 4)) = some (.int .i64 o.k) ∧ w.cell? ⟨(ad.add (i * 4)).block, (ad.add (i * 4)).off + 1, none⟩ = some (.int .i64 o.id) ∧
      w.cell? ⟨(ad.add (i * 4)).block, (ad.add (i * 4)).off + 2, none⟩ = some (.int .i64 o.n) ∧ w.cell? ⟨(ad.add (i * 4)).block, (ad.add (i * 4)).off + 3, none⟩ = some (.int .i64 o.v) := by
  have h0 := opsCells_at hi 0 (by omega)
  have h1 := opsCells_at hi 1 (by omega)
  have h2 := opsCells_at hi 2 (by omega)
  have h3 := opsCells_at hi 3 (by omega)
  obtain ⟨ad, rfl, _, hlt, c0⟩ := h _ _ h0
  obtain ⟨ad', e, _, _, c1⟩ := h _ _ h1
  cases e
  obtain ⟨ad', e, _, _, c2⟩ := h _ _ h2
  cases e
  obtain ⟨ad', e, _, _, c3⟩ := h _ _ h3
  cases e
  refine ⟨ad, rfl, hlt, c0, ?_, ?_, ?_⟩
  · rw [← add_add'] at c1; unfold Addr.add at c1 ⊢; simpa using c1
  · rw [← add_add'] at c2; unfold Addr.add at c2 ⊢; simpa using c2
  · rw [← add_add'] at c3; unfold Addr.add at c3 ⊢; simpa using c3
/-- Three arenas, apart from each other and from what came in. -/
structure Three (B : Nat) (fa fb fc : Fp) : Prop where
  ab : fa.off fb
  ba : fb.off fa
  ac : fa.off fc
  ca : fc.off fa
  bc : fb.off fc
  cb : fc.off fb
  a : fa.from B
  b : fb.from B
  c : fc.from B
structure TwAt (w0 : World) (fa fb fc : Fp) (Ta Tb Tc : PA) (w : World) : Prop where
  a : ArenaAt w fa Ta
  b : ArenaAt w fb Tb
  c : ArenaAt w fc Tc
  low : Below w0.heap.size w0 w
theorem TwAt.stepA {w0 w w1 : World} {fa fb fc : Fp} {Ta Tb Tc Ta' : PA} (h : TwAt w0 fa fb fc Ta Tb Tc w) (F : Three w0.heap.size fa fb fc) (ha : ArenaAt w1 fa Ta') (hm : Mv fa w w1) : TwAt w0 fa fb fc Ta' Tb Tc w1 :=
  ⟨ha, h.b.other hm F.ba, h.c.other hm F.ca, hm.below F.a h.low h.low.size⟩
theorem TwAt.stepB {w0 w w1 : World} {fa fb fc : Fp} {Ta Tb Tc Tb' : PA} (h : TwAt w0 fa fb fc Ta Tb Tc w) (F : Three w0.heap.size fa fb fc) (hb : ArenaAt w1 fb Tb') (hm : Mv fb w w1) : TwAt w0 fa fb fc Ta Tb' Tc w1 :=
  ⟨h.a.other hm F.ab, hb, h.c.other hm F.cb, hm.below F.b h.low h.low.size⟩
theorem TwAt.stepC {w0 w w1 : World} {fa fb fc : Fp} {Ta Tb Tc Tc' : PA} (h : TwAt w0 fa fb fc Ta Tb Tc w) (F : Three w0.heap.size fa fb fc) (hc : ArenaAt w1 fc Tc') (hm : Mv fc w w1) : TwAt w0 fa fb fc Ta Tb Tc' w1 :=
  ⟨h.a.other hm F.ac, h.b.other hm F.bc, hc, hm.below F.c h.low h.low.size⟩
theorem TwAt.keep {w0 w w1 : World} {fa fb fc : Fp} {Ta Tb Tc : PA} (h : TwAt w0 fa fb fc Ta Tb Tc w) (hb : Below w.heap.size w w1) : TwAt w0 fa fb fc Ta Tb Tc w1 :=
  ⟨h.a.below hb, h.b.below hb, h.c.below hb, below_seq h.low hb h.low.size⟩
/-- A block that is no arena's. -/
def FreeOf (L : Nat) (f : Fp) : Prop := L ≠ f.a ∧ L ≠ f.c ∧ L ≠ f.m ∧ f.t ≠ some L
theorem new_three {w0 w : World} {size : Int} {fa fb fc : Fp} {w1 w2 w3 : World} (hw : Below w0.heap.size w0 w) (h1 : ArenaAt w1 fa (newP size none)) (t1 : fa.t = none) (a1 : w.heap.size ≤ fa.a) (c1 : w.heap.size ≤ fa.c) (m1 : w.heap.size ≤ fa.m) (b1 : Below w.heap.size w w1)
    (h2 : ArenaAt w2 fb (newP size none)) (t2 : fb.t = none) (a2 : w1.heap.size ≤ fb.a) (c2 : w1.heap.size ≤ fb.c) (m2 : w1.heap.size ≤ fb.m) (b2 : Below w1.heap.size w1 w2)
    (h3 : ArenaAt w3 fc (newP size none)) (t3 : fc.t = none) (a3 : w2.heap.size ≤ fc.a) (c3 : w2.heap.size ≤ fc.c) (m3 : w2.heap.size ≤ fc.m) (b3 : Below w2.heap.size w2 w3) :
    Three w0.heap.size fa fb fc ∧ TwAt w0 fa fb fc (newP size none) (newP size none) (newP size none) w3 := by
  have s0 := hw.size
  have s1 := b1.size
  have s2 := b2.size
  have la := h1.lt
  have lb := h2.lt
  have nt : ∀ {f : Fp} {B : Nat}, f.t = none → ∀ t, f.t = some t → t < B := fun h t e => by rw [h] at e; cases e
  have nt' : ∀ {f : Fp} {B : Nat}, f.t = none → ∀ t, f.t = some t → B ≤ t := fun h t e => by rw [h] at e; cases e
  have ab := off_of (f := fb) (g := fa) (B := w1.heap.size) ⟨a2, c2, m2, nt' t2⟩ ⟨la.1, la.2.1, la.2.2.1, nt t1⟩
  have bc := off_of (f := fc) (g := fb) (B := w2.heap.size) ⟨a3, c3, m3, nt' t3⟩ ⟨lb.1, lb.2.1, lb.2.2.1, nt t2⟩
  have ac := off_of (f := fc) (g := fa) (B := w2.heap.size) ⟨a3, c3, m3, nt' t3⟩ ⟨by have := la.1; omega, by have := la.2.1; omega, by have := la.2.2.1; omega, nt t1⟩
  exact ⟨⟨ab.2, ab.1, ac.2, ac.1, bc.2, bc.1, ⟨by omega, by omega, by omega, nt' t1⟩, ⟨by omega, by omega, by omega, nt' t2⟩, ⟨by omega, by omega, by omega, nt' t3⟩⟩,
    (h1.below b2).below b3, h2.below b3, h3, below_seq (below_seq (below_seq hw b1 s0) b2 (by omega)) b3 (by omega)⟩
/-- A call as a step that hands on one value and what is then known of the world. -/
theorem call_step {P : Program} {w : World} {o : Oper} {a : Act} {Q : Exit → Act → World → Prop} (f : FuncId) (xs : Array Operand) (ats : Array TypeId)
    (ho : o.op = .call { callee := .value (.func f), args := xs, argTypes := ats }) (vals : Array Value) (hv : xs.map a.eval = vals) (v : Value) (J : World → Prop)
    (hrun : (callFunc f vals).run P w = .ok (.enter f vals) w) (hcall : Calls P f vals w fun e w' => e = .returned v ∧ J w')
    (K : Act → World → Prop) (hK : ∀ w', J w' → K (a.put o.dst v) w') : Oper.wp P o a w K Q :=
  wp_call f xs ats ho vals hv (R := fun u w' => u = v ∧ J w') hrun (hcall.mono fun e w' ⟨he, hj⟩ => ⟨v, he, rfl, hj⟩) fun u w' ⟨hu, hj⟩ => by subst hu; exact hK w' hj
end Go.Proofs.Ytdjmjdfkblhgdaa
