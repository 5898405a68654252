/- Two arenas that are told the same answer the same: the law's walk. -/
import Derived.Test.YtdjmjdfkblhgdaaArAwake
import Derived.Test.YtdjmjdfkblhgdaaArOpen
namespace Go.Proofs.Ytdjmjdfkblhgdaa
open Go.RowKit
def longP (size : Int) (n : Nat) : Bool := decide (300 < size) || decide (200 < n)
theorem long_any (size : Int) (A : Option Addr) (n c : Nat) (w : World) : Calls Try.prog 14 #[.int .i64 size, .slice A n c] w fun e w' => e = .returned (.bool (longP size n)) ∧ w = w' := by
  unfold longP
  by_cases h : 300 < size
  · have d0 : decide ((300 : Int) < size) = true := by simp [h]
    go_enter Try.func14, Try.ntmps14
    go_wp2
    go_returns
    exact ⟨by simp [h], rfl⟩
  · have d0 : decide ((300 : Int) < size) = false := by simp; omega
    by_cases h2 : 200 < n
    · have d1 : decide ((200 : Int) < (n : Int)) = true := by simp; omega
      go_enter Try.func14, Try.ntmps14
      go_wp2
      go_returns
      exact ⟨by simp, rfl⟩
    · have d1 : decide ((200 : Int) < (n : Int)) = false := by simp; omega
      go_enter Try.func14, Try.ntmps14
      go_wp2
      go_returns
      exact ⟨by simp, rfl⟩
theorem allocP_last (S : PA) (n : Int) : (allocP S n).2.2.last ≤ S.last + 1 := by
  unfold allocP
  split
  · exact Nat.le_succ _
  · split
    · simp
    · split
      · simp [addReg]
      · split <;> simp [addReg]
theorem setP_last (S : PA) (id i v : Int) : (setP S id i v).2.last = S.last := by
  unfold setP
  split <;> rfl
theorem freeP_last (S : PA) (id : Int) : (freeP S id).2.last = S.last := by
  unfold freeP
  split <;> rfl
theorem op_at {w : World} {L B : Nat} {A : Option Addr} {l : List OpV} (h : RowAt w L B A (opsCells l)) {i : Nat} {o : OpV} (hi : l[i]? = some o) :
    ∃ ad, A = some ad ∧ ad.block < B ∧ w.cell? (ad.add (i * 4)) = some (.int .i64 o.k) ∧ w.cell? ⟨(ad.add (i * 4)).block, (ad.add (i * 4)).off + 1, none⟩ = some (.int .i64 o.id) ∧
      w.cell? ⟨(ad.add (i * 4)).block, (ad.add (i * 4)).off + 2, none⟩ = some (.int .i64 o.n) ∧ w.cell? ⟨(ad.add (i * 4)).block, (ad.add (i * 4)).off + 3, none⟩ = some (.int .i64 o.v) := by
  have h0 := opsCells_at hi 0 (by omega)
  have h1 := opsCells_at hi 1 (by omega)
  have h2 := opsCells_at hi 2 (by omega)
  have h3 := opsCells_at hi 3 (by omega)
  obtain ⟨ad, rfl, _, hlt, c0⟩ := h _ _ h0
  obtain ⟨ad', e, _, _, c1⟩ := h _ _ h1
  cases e
  obtain ⟨ad', e, _, _, c2⟩ := h _ _ h2
  cases e
  obtain ⟨ad', e, _, _, c3⟩ := h _ _ h3
  cases e
  refine ⟨ad, rfl, hlt, c0, ?_, ?_, ?_⟩
  · rw [← add_add'] at c1; unfold Addr.add at c1 ⊢; simpa using c1
  · rw [← add_add'] at c2; unfold Addr.add at c2 ⊢; simpa using c2
  · rw [← add_add'] at c3; unfold Addr.add at c3 ⊢; simpa using c3
/-- Three arenas, apart from each other and from what came in. -/
structure Three (B : Nat) (fa fb fc : Fp) : Prop where
  ab : fa.off fb
  ba : fb.off fa
  ac : fa.off fc
  ca : fc.off fa
  bc : fb.off fc
  cb : fc.off fb
  a : fa.from B
  b : fb.from B
  c : fc.from B
structure TwAt (w0 : World) (fa fb fc : Fp) (Ta Tb Tc : PA) (w : World) : Prop where
  a : ArenaAt w fa Ta
  b : ArenaAt w fb Tb
  c : ArenaAt w fc Tc
  low : Below w0.heap.size w0 w
theorem TwAt.stepA {w0 w w1 : World} {fa fb fc : Fp} {Ta Tb Tc Ta' : PA} (h : TwAt w0 fa fb fc Ta Tb Tc w) (F : Three w0.heap.size fa fb fc) (ha : ArenaAt w1 fa Ta') (hm : Mv fa w w1) : TwAt w0 fa fb fc Ta' Tb Tc w1 :=
  ⟨ha, h.b.other hm F.ba, h.c.other hm F.ca, hm.below F.a h.low h.low.size⟩
theorem TwAt.stepB {w0 w w1 : World} {fa fb fc : Fp} {Ta Tb Tc Tb' : PA} (h : TwAt w0 fa fb fc Ta Tb Tc w) (F : Three w0.heap.size fa fb fc) (hb : ArenaAt w1 fb Tb') (hm : Mv fb w w1) : TwAt w0 fa fb fc Ta Tb' Tc w1 :=
  ⟨h.a.other hm F.ab, hb, h.c.other hm F.cb, hm.below F.b h.low h.low.size⟩
theorem TwAt.stepC {w0 w w1 : World} {fa fb fc : Fp} {Ta Tb Tc Tc' : PA} (h : TwAt w0 fa fb fc Ta Tb Tc w) (F : Three w0.heap.size fa fb fc) (hc : ArenaAt w1 fc Tc') (hm : Mv fc w w1) : TwAt w0 fa fb fc Ta Tb Tc' w1 :=
  ⟨h.a.other hm F.ac, h.b.other hm F.bc, hc, hm.below F.c h.low h.low.size⟩
theorem TwAt.keep {w0 w w1 : World} {fa fb fc : Fp} {Ta Tb Tc : PA} (h : TwAt w0 fa fb fc Ta Tb Tc w) (hb : Below w.heap.size w w1) : TwAt w0 fa fb fc Ta Tb Tc w1 :=
  ⟨h.a.below hb, h.b.below hb, h.c.below hb, below_seq h.low hb h.low.size⟩
/-- A block that is no arena's. -/
def FreeOf (L : Nat) (f : Fp) : Prop := L ≠ f.a ∧ L ≠ f.c ∧ L ≠ f.m ∧ f.t ≠ some L
theorem new_three {w0 w : World} {size : Int} {fa fb fc : Fp} {w1 w2 w3 : World} (hw : Below w0.heap.size w0 w) (h1 : ArenaAt w1 fa (newP size none)) (t1 : fa.t = none) (a1 : w.heap.size ≤ fa.a) (c1 : w.heap.size ≤ fa.c) (m1 : w.heap.size ≤ fa.m) (b1 : Below w.heap.size w w1)
    (h2 : ArenaAt w2 fb (newP size none)) (t2 : fb.t = none) (a2 : w1.heap.size ≤ fb.a) (c2 : w1.heap.size ≤ fb.c) (m2 : w1.heap.size ≤ fb.m) (b2 : Below w1.heap.size w1 w2)
    (h3 : ArenaAt w3 fc (newP size none)) (t3 : fc.t = none) (a3 : w2.heap.size ≤ fc.a) (c3 : w2.heap.size ≤ fc.c) (m3 : w2.heap.size ≤ fc.m) (b3 : Below w2.heap.size w2 w3) :
    Three w0.heap.size fa fb fc ∧ TwAt w0 fa fb fc (newP size none) (newP size none) (newP size none) w3 := by
  have s0 := hw.size
  have s1 := b1.size
  have s2 := b2.size
  have la := h1.lt
  have lb := h2.lt
  have nt : ∀ {f : Fp} {B : Nat}, f.t = none → ∀ t, f.t = some t → t < B := fun h t e => by rw [h] at e; cases e
  have nt' : ∀ {f : Fp} {B : Nat}, f.t = none → ∀ t, f.t = some t → B ≤ t := fun h t e => by rw [h] at e; cases e
  have ab := off_of (f := fb) (g := fa) (B := w1.heap.size) ⟨a2, c2, m2, nt' t2⟩ ⟨la.1, la.2.1, la.2.2.1, nt t1⟩
  have bc := off_of (f := fc) (g := fb) (B := w2.heap.size) ⟨a3, c3, m3, nt' t3⟩ ⟨lb.1, lb.2.1, lb.2.2.1, nt t2⟩
  have ac := off_of (f := fc) (g := fa) (B := w2.heap.size) ⟨a3, c3, m3, nt' t3⟩ ⟨by have := la.1; omega, by have := la.2.1; omega, by have := la.2.2.1; omega, nt t1⟩
  exact ⟨⟨ab.2, ab.1, ac.2, ac.1, bc.2, bc.1, ⟨by omega, by omega, by omega, nt' t1⟩, ⟨by omega, by omega, by omega, nt' t2⟩, ⟨by omega, by omega, by omega, nt' t3⟩⟩,
    (h1.below b2).below b3, h2.below b3, h3, below_seq (below_seq (below_seq hw b1 s0) b2 (by omega)) b3 (by omega)⟩
/-- A call as a step that hands on one value and what is then known of the world. -/
theorem call_step {P : Program} {w : World} {o : Oper} {a : Act} {Q : Exit → Act → World → Prop} (f : FuncId) (xs : Array Operand) (ats : Array TypeId)
    (ho : o.op = .call { callee := .value (.func f), args := xs, argTypes := ats }) (vals : Array Value) (hv : xs.map a.eval = vals) (v : Value) (J : World → Prop)
    (hrun : (callFunc f vals).run P w = .ok (.enter f vals) w) (hcall : Calls P f vals w fun e w' => e = .returned v ∧ J w')
    (K : Act → World → Prop) (hK : ∀ w', J w' → K (a.put o.dst v) w') : Oper.wp P o a w K Q :=
  wp_call f xs ats ho vals hv (R := fun u w' => u = v ∧ J w') hrun (hcall.mono fun e w' ⟨he, hj⟩ => ⟨v, he, rfl, hj⟩) fun u w' ⟨hu, hj⟩ => by subst hu; exact hK w' hj
set_option maxRecDepth 100000 in
set_option maxHeartbeats 16000000 in
theorem twice_main (size : Int) (l1 : List OpV) (A1 : Option Addr) (c1 : Nat) (l2 : List OpV) (A2 : Option Addr) (c2 : Nat) (w : World) (r1 : RowAt w 0 w.heap.size A1 (opsCells l1)) (r2 : RowAt w 0 w.heap.size A2 (opsCells l2))
    (h1 : longP size l1.length = false) (h2 : longP size l2.length = false) :
    Calls Try.prog 3 #[.int .i64 size, .slice A1 l1.length c1, .slice A2 l2.length c2] w fun e w' => e = .returned (.bool true) ∧ Below w.heap.size w w' := by
  have L1 := fun wx => long_any size A1 l1.length c1 wx
  have L2 := fun wx => long_any size A2 l2.length c2 wx
  rw [h1] at L1
  rw [h2] at L2
  have hs : size ≤ 300 ∧ l1.length ≤ 200 := by
    unfold longP at h1
    simp only [Bool.or_eq_false_iff, decide_eq_false_iff_not] at h1
    omega
  have HL1 := Lib.hid L1
  have HL2 := Lib.hid L2
  have NEW := Lib.hid (fun wx => new_any size (by omega) none none wx trivial (by intro m h; cases h))
  have R1 := Lib.hid (fun wx (hb : Below w.heap.size w wx) => r1.keep hb)
  have R2 := Lib.hid (fun wx (hb : Below w.heap.size w wx) => r2.keep hb)
  clear L1 L2 h1 h2 r1 r2
  go_enter Try.func3, Try.ntmps3
  go_wp2_with fail
  refine (awake_any w).mono ?_
  rintro e w1 ⟨rfl, hb1⟩
  go_wp2_with fail
  refine (HL1.out w1).mono ?_
  rintro e _ ⟨rfl, rfl⟩
  go_wp2_with fail
  refine (HL2.out w1).mono ?_
  rintro e _ ⟨rfl, rfl⟩
  go_wp2_with fail
  refine (NEW.out w1).mono ?_
  rintro e w2 ⟨fa, rfl, hA, ta, aa, ac, am, hb2⟩
  go_wp2_with fail
  refine (NEW.out w2).mono ?_
  rintro e w3 ⟨fb, rfl, hB, tb, ba, bc, bm, hb3⟩
  go_wp2_with fail
  refine (NEW.out w3).mono ?_
  rintro e w4 ⟨fc, rfl, hC, tc, ca, cc, cm, hb4⟩
  obtain ⟨hF, hT⟩ := new_three hb1 hA ta aa ac am hb2 hB tb ba bc bm hb3 hC tc ca cc cm hb4
  have F := Lib.hid hF
  have T := Lib.hid hT
  have hl0 : (newP size none).last = 0 := rfl
  clear hF hT hA ta aa ac am hb2 hB tb ba bc bm hb3 hC tc ca cc cm hb4 hb1 NEW HL1 HL2
  go_wp2
  go_loopw [37] (fun i wr => ∃ (k : Nat) (S Sc : PA), k ≤ l1.length ∧ i = .int .i64 (k : Int) ∧ S.last ≤ k ∧ Sc.last ≤ k ∧ TwAt w fa fb fc S S Sc wr) (fun i _ => l1.length - (intOf i).toNat)
  case atStart => exact ⟨0, _, _, Nat.zero_le _, rfl, Nat.le_of_eq hl0, Nat.le_of_eq hl0, T.out⟩
  case round =>
    obtain ⟨k, S, Sc, hk, rfl, hSl, hCl, hTw⟩ := hrel
    have HT := Lib.hid hTw
    clear hTw
    by_cases hlt : k < l1.length
    · have d3 : decide ((k : Int) < (l1.length : Int)) = true := by simp; omega
      obtain ⟨ad, rfl, hadl, e0, e1, e2, e3⟩ := op_at (R1.out _ HT.out.low) (List.getElem?_eq_getElem hlt)
      generalize l1[k] = ov at *
      obtain ⟨ok, oid, on, ovv⟩ := ov
      simp only at e0 e1 e2 e3
      have hT2 := HT.out.keep ((Below.refl _ _).alloc (Nat.le_refl _) (.cells #[.int .i64 ok, .int .i64 oid, .int .i64 on, .int .i64 ovv] 28))
      have HL := Lib.hid (heap_alloc_new wr (.cells #[.int .i64 ok, .int .i64 oid, .int .i64 on, .int .i64 ovv] 28))
      have hla := HT.out.a.lt
      have hlb := HT.out.b.lt
      have hlc := HT.out.c.lt
      have OA : Hid (FreeOf wr.heap.size fa) := ⟨by omega, by omega, by omega, fun e => by have := hla.2.2.2 _ e; omega⟩
      have OB : Hid (FreeOf wr.heap.size fb) := ⟨by omega, by omega, by omega, fun e => by have := hlb.2.2.2 _ e; omega⟩
      have OC : Hid (FreeOf wr.heap.size fc) := ⟨by omega, by omega, by omega, fun e => by have := hlc.2.2.2 _ e; omega⟩
      have T2 := Lib.hid hT2
      clear hla hlb hlc hT2
      generalize hwl : wr.alloc (.cells #[.int .i64 ok, .int .i64 oid, .int .i64 on, .int .i64 ovv] 28) = wl at *
      generalize hgL : wr.heap.size = L at *
      have lc2 : wl.cell? ⟨L, 2, none⟩ = some (.int .i64 on) := cell_of_row _ _ 2 _ _ _ HL.out
      by_cases hk2 : k < l2.length
      · have d4 : decide ((k : Int) < (l2.length : Int)) = true := by simp; omega
        have hov := List.getElem?_eq_getElem hk2
        generalize l2[k] = ov2 at hov
        obtain ⟨pk, pid, pn, pv⟩ := ov2
        have HOV := Lib.hid hov
        obtain ⟨ad2, rfl, hadl2, f0, f1, f2, f3⟩ := op_at (R2.out _ T2.out.low) hov
        simp only at f0 f1 f2 f3
        clear hov f0 f1 f3
        go_wp2_with fail
        refine (alloc_any T2.out.c pn (by omega)).mono ?_
        rintro e v1 ⟨rfl, hA, hM⟩
        have V1 := Lib.hid (T2.out.stepC F.out hA hM)
        have K1 := Lib.hid ((hM.block L (blk_lt HL.out) OC.out.1 OC.out.2.1 OC.out.2.2.1 OC.out.2.2.2).trans HL.out)
        have hcl := allocP_last Sc pn
        clear hA hM T2 HL lc2 f2
        generalize (allocP Sc pn).2.2 = Sc1 at *
        obtain ⟨ad', hade, _, g0, g1, g2, g3⟩ := op_at (R2.out _ V1.out.low) HOV.out
        injection hade with hade
        subst hade
        simp only at g0 g1 g2 g3
        go_wp2
        refine wp_region_noPanic ?_
        refine wp_region_held_drew (S := (fun w' => w'.cell? ⟨(ad2.add (k * 4)).block, (ad2.add (k * 4)).off + 1, none⟩ = some (.int .i64 pid) ∧ w'.cell? ⟨(ad2.add (k * 4)).block, (ad2.add (k * 4)).off + 2, none⟩ = some (.int .i64 pn) ∧ w'.cell? ⟨(ad2.add (k * 4)).block, (ad2.add (k * 4)).off + 3, none⟩ = some (.int .i64 pv))) (by kernel_rfl) (⟨g1, g2, g3⟩) (fun hH => ?_)
        refine wpAnyH_take (i := 0) (oi := ⟨some 53, _, _, _, _, _⟩) (v := .pointer (some ⟨fc.a, 0, none⟩)) rfl (by kernel_rfl) (by kernel_rfl) (by kernel_rfl) (fun _ _ _ h => h) (Or.inl ⟨by rfl, fun wq hq => ?_⟩) hH ?_
        · go_simp
        simp only [Act.put, List.setIfInBounds_toArray, List.set_cons_zero, List.set_cons_succ]
        refine wpAnyH_take (i := 1) (oi := ⟨some 54, _, _, _, _, _⟩) (v := .slice (some ad2) l2.length c2) rfl (by kernel_rfl) (by kernel_rfl) (by kernel_rfl) (fun _ _ _ h => h) (Or.inl ⟨by rfl, fun wq hq => ?_⟩) hH ?_
        · go_simp
        simp only [Act.put, List.setIfInBounds_toArray, List.set_cons_zero, List.set_cons_succ]
        refine wpAnyH_take (i := 2) (oi := ⟨some 55, _, _, _, _, _⟩) (v := .int .i64 (k : Int)) rfl (by kernel_rfl) (by kernel_rfl) (by kernel_rfl) (fun _ _ _ h => h) (Or.inl ⟨by rfl, fun wq hq => ?_⟩) hH ?_
        · go_simp
        simp only [Act.put, List.setIfInBounds_toArray, List.set_cons_zero, List.set_cons_succ]
        refine wpAnyH_take (i := 3) (oi := ⟨some 56, _, _, _, _, _⟩) (v := .pointer (some (ad2.add (k * 4)))) rfl (by kernel_rfl) (by kernel_rfl) (by kernel_rfl) (fun _ _ _ h => h) (Or.inl ⟨by rfl, fun wq hq => ?_⟩) hH ?_
        · go_simp
        simp only [Act.put, List.setIfInBounds_toArray, List.set_cons_zero, List.set_cons_succ]
        refine wpAnyH_take (i := 4) (oi := ⟨some 57, _, _, _, _, _⟩) (v := .pointer (some ⟨(ad2.add (k * 4)).block, (ad2.add (k * 4)).off + 1, none⟩)) rfl (by kernel_rfl) (by kernel_rfl) (by kernel_rfl) (fun _ _ _ h => h) (Or.inl ⟨by rfl, fun wq hq => ?_⟩) hH ?_
        · go_simp
        simp only [Act.put, List.setIfInBounds_toArray, List.set_cons_zero, List.set_cons_succ]
        refine wpAnyH_take (i := 5) (oi := ⟨some 58, _, _, _, _, _⟩) (v := .int .i64 pid) rfl (by kernel_rfl) (by kernel_rfl) (by kernel_rfl) (fun _ _ _ h => h) (Or.inl ⟨by rfl, fun wq hq => ?_⟩) hH ?_
        · obtain ⟨q1, q2, q3⟩ := hq; go_simp
        simp only [Act.put, List.setIfInBounds_toArray, List.set_cons_zero, List.set_cons_succ]
        refine wpAnyH_take (i := 6) (oi := ⟨some 59, _, _, _, _, _⟩) (v := .slice (some ad2) l2.length c2) rfl (by kernel_rfl) (by kernel_rfl) (by kernel_rfl) (fun _ _ _ h => h) (Or.inl ⟨by rfl, fun wq hq => ?_⟩) hH ?_
        · go_simp
        simp only [Act.put, List.setIfInBounds_toArray, List.set_cons_zero, List.set_cons_succ]
        refine wpAnyH_take (i := 7) (oi := ⟨some 60, _, _, _, _, _⟩) (v := .int .i64 (k : Int)) rfl (by kernel_rfl) (by kernel_rfl) (by kernel_rfl) (fun _ _ _ h => h) (Or.inl ⟨by rfl, fun wq hq => ?_⟩) hH ?_
        · go_simp
        simp only [Act.put, List.setIfInBounds_toArray, List.set_cons_zero, List.set_cons_succ]
        refine wpAnyH_take (i := 8) (oi := ⟨some 61, _, _, _, _, _⟩) (v := .pointer (some (ad2.add (k * 4)))) rfl (by kernel_rfl) (by kernel_rfl) (by kernel_rfl) (fun _ _ _ h => h) (Or.inl ⟨by rfl, fun wq hq => ?_⟩) hH ?_
        · go_simp
        simp only [Act.put, List.setIfInBounds_toArray, List.set_cons_zero, List.set_cons_succ]
        refine wpAnyH_take (i := 9) (oi := ⟨some 62, _, _, _, _, _⟩) (v := .pointer (some ⟨(ad2.add (k * 4)).block, (ad2.add (k * 4)).off + 2, none⟩)) rfl (by kernel_rfl) (by kernel_rfl) (by kernel_rfl) (fun _ _ _ h => h) (Or.inl ⟨by rfl, fun wq hq => ?_⟩) hH ?_
        · go_simp
        simp only [Act.put, List.setIfInBounds_toArray, List.set_cons_zero, List.set_cons_succ]
        refine wpAnyH_take (i := 10) (oi := ⟨some 63, _, _, _, _, _⟩) (v := .int .i64 pn) rfl (by kernel_rfl) (by kernel_rfl) (by kernel_rfl) (fun _ _ _ h => h) (Or.inl ⟨by rfl, fun wq hq => ?_⟩) hH ?_
        · obtain ⟨q1, q2, q3⟩ := hq; go_simp
        simp only [Act.put, List.setIfInBounds_toArray, List.set_cons_zero, List.set_cons_succ]
        refine wpAnyH_take (i := 11) (oi := ⟨some 64, _, _, _, _, _⟩) (v := .slice (some ad2) l2.length c2) rfl (by kernel_rfl) (by kernel_rfl) (by kernel_rfl) (fun _ _ _ h => h) (Or.inl ⟨by rfl, fun wq hq => ?_⟩) hH ?_
        · go_simp
        simp only [Act.put, List.setIfInBounds_toArray, List.set_cons_zero, List.set_cons_succ]
        refine wpAnyH_take (i := 12) (oi := ⟨some 65, _, _, _, _, _⟩) (v := .int .i64 (k : Int)) rfl (by kernel_rfl) (by kernel_rfl) (by kernel_rfl) (fun _ _ _ h => h) (Or.inl ⟨by rfl, fun wq hq => ?_⟩) hH ?_
        · go_simp
        simp only [Act.put, List.setIfInBounds_toArray, List.set_cons_zero, List.set_cons_succ]
        refine wpAnyH_take (i := 13) (oi := ⟨some 66, _, _, _, _, _⟩) (v := .pointer (some (ad2.add (k * 4)))) rfl (by kernel_rfl) (by kernel_rfl) (by kernel_rfl) (fun _ _ _ h => h) (Or.inl ⟨by rfl, fun wq hq => ?_⟩) hH ?_
        · go_simp
        simp only [Act.put, List.setIfInBounds_toArray, List.set_cons_zero, List.set_cons_succ]
        refine wpAnyH_take (i := 14) (oi := ⟨some 67, _, _, _, _, _⟩) (v := .pointer (some ⟨(ad2.add (k * 4)).block, (ad2.add (k * 4)).off + 3, none⟩)) rfl (by kernel_rfl) (by kernel_rfl) (by kernel_rfl) (fun _ _ _ h => h) (Or.inl ⟨by rfl, fun wq hq => ?_⟩) hH ?_
        · go_simp
        simp only [Act.put, List.setIfInBounds_toArray, List.set_cons_zero, List.set_cons_succ]
        refine wpAnyH_take (i := 15) (oi := ⟨some 68, _, _, _, _, _⟩) (v := .int .i64 pv) rfl (by kernel_rfl) (by kernel_rfl) (by kernel_rfl) (fun _ _ _ h => h) (Or.inl ⟨by rfl, fun wq hq => ?_⟩) hH ?_
        · obtain ⟨q1, q2, q3⟩ := hq; go_simp
        simp only [Act.put, List.setIfInBounds_toArray, List.set_cons_zero, List.set_cons_succ]
        refine wpAnyH_ready (rs := [16]) (by kernel_rfl) (by simp) (AllReadyH.cons (o := ⟨some 69, .call { callee := .value (.func 17), args := #[.tmp 53, .tmp 58, .tmp 63, .tmp 68], argTypes := #[25, 3, 3, 3] }, _, _, _, _⟩) rfl (fun K hK => ?_) AllReadyH.nil)
        rw [if_pos (by rfl)]
        refine call_step _ _ _ rfl #[.pointer (some ⟨fc.a, 0, none⟩), .int .i64 pid, .int .i64 pn, .int .i64 pv] (by simp only [List.map_toArray, List.map_cons, List.map_nil]; rfl) _ _ (by kernel_rfl) (set_any (V1.out.keep (below_drewN (Below.refl _ _) 1)).c pid pn pv) K ?_
        rintro v2 ⟨hA, hM⟩
        have T2 := Lib.hid ((V1.out.keep (below_drewN (Below.refl _ _) 1)).stepC F.out hA hM)
        have HL := Lib.hid ((hM.block L (blk_lt K1.out) OC.out.1 OC.out.2.1 OC.out.2.2.1 OC.out.2.2.2).trans K1.out)
        have g1' := (R2.out _ T2.out.low)
        obtain ⟨ad', hade, _, g0', g1', g2', g3'⟩ := op_at (R2.out _ T2.out.low) HOV.out
        injection hade with hade
        subst hade
        refine hK.out _ _ (⟨g1', g2', g3'⟩) (fun hHn => ?_)
        replace hH := hHn
        clear hK K hHn
        simp only [Act.put, List.setIfInBounds_toArray, List.set_cons_zero, List.set_cons_succ]
        refine wpAnyH_done (by kernel_rfl) ?_ _
        refine NoPanic.normal ?_
        have hC2 : (setP Sc1 pid pn pv).2.last ≤ k + 1 := by rw [setP_last]; omega
        have lc2 : v2.cell? ⟨L, 2, none⟩ = some (.int .i64 on) := cell_of_row _ _ 2 _ _ _ HL.out
        clear hH hA hM g0 g1 g2 g3 g0' g1' g2' g3' V1 K1
        generalize (setP Sc1 pid pn pv).2 = Sc2 at *
        by_cases hk2' : ok = 2
        · subst hk2'
          go_wp2_with fail
          refine (alloc_any T2.out.a on (by omega)).mono ?_
          rintro e w5 ⟨rfl, hA, hM⟩
          have T3 := Lib.hid (T2.out.stepA F.out hA hM)
          have HL3 := Lib.hid ((hM.block L (blk_lt HL.out) OA.out.1 OA.out.2.1 OA.out.2.2.1 OA.out.2.2.2).trans HL.out)
          have lc2' : w5.cell? ⟨L, 2, none⟩ = some (.int .i64 on) := cell_of_row _ _ 2 _ _ _ HL3.out
          clear hA hM T2 HL lc2
          go_wp2_with fail
          refine (alloc_any T3.out.b on (by omega)).mono ?_
          rintro e w6 ⟨rfl, hA, hM⟩
          have T4 := Lib.hid (T3.out.stepB F.out hA hM)
          have HL4 := Lib.hid ((hM.block L (blk_lt HL3.out) OB.out.1 OB.out.2.1 OB.out.2.2.1 OB.out.2.2.2).trans HL3.out)
          have hlast := allocP_last S on
          clear hA hM T3 HL3 lc2'
          generalize (allocP S on).2.2 = S1 at *
          generalize ((allocP S on).1 : Int) = x at *
          generalize ((allocP S on).2.1 : Int) = er at *
          go_wp2
          refine wp_region_noPanic ?_
          refine wp_region_held_drew (S := (fun w' => w'.heap[L]? = some (.cells #[.int .i64 2, .int .i64 oid, .int .i64 on, .int .i64 ovv] 28 (0, 0)))) (by kernel_rfl) (HL4.out) (fun hH => ?_)
          have hT : TwAt w fa fb fc S1 S1 Sc2 w6.drew := T4.out.keep (below_drewN (Below.refl _ _) 1)
          clear T4 HL4
          generalize w6.drew = w7 at *
          refine wpAnyH_take (i := 0) (oi := ⟨some 84, _, _, _, _, _⟩) (v := .int .i64 x) rfl (by kernel_rfl) (by kernel_rfl) (by kernel_rfl) (fun _ _ _ h => h) (Or.inl ⟨by rfl, fun wq hq => ?_⟩) hH ?_
          · go_simp
          simp only [Act.put, List.setIfInBounds_toArray, List.set_cons_zero, List.set_cons_succ]
          refine wpAnyH_take (i := 1) (oi := ⟨some 85, _, _, _, _, _⟩) (v := .int .i64 x) rfl (by kernel_rfl) (by kernel_rfl) (by kernel_rfl) (fun _ _ _ h => h) (Or.inl ⟨by rfl, fun wq hq => ?_⟩) hH ?_
          · go_simp
          simp only [Act.put, List.setIfInBounds_toArray, List.set_cons_zero, List.set_cons_succ]
          refine wpAnyH_take (i := 2) (oi := ⟨some 86, _, _, _, _, _⟩) (v := .bool false) rfl (by kernel_rfl) (by kernel_rfl) (by kernel_rfl) (fun _ _ _ h => h) (Or.inl ⟨by rfl, fun wq hq => ?_⟩) hH ?_
          · go_simp
          simp only [Act.put, List.setIfInBounds_toArray, List.set_cons_zero, List.set_cons_succ]
          refine wpAnyH_take (i := 3) (oi := ⟨some 87, _, _, _, _, _⟩) (v := .bool false) rfl (by kernel_rfl) (by kernel_rfl) (by kernel_rfl) (fun _ _ _ h => h) (Or.inl ⟨by rfl, fun wq hq => ?_⟩) hH ?_
          · go_simp
          simp only [Act.put, List.setIfInBounds_toArray, List.set_cons_zero, List.set_cons_succ]
          refine wpAnyH_take (i := 4) (oi := ⟨some 88, _, _, _, _, _⟩) (v := .int .i64 er) rfl (by kernel_rfl) (by kernel_rfl) (by kernel_rfl) (fun _ _ _ h => h) (Or.inl ⟨by rfl, fun wq hq => ?_⟩) hH ?_
          · go_simp
          simp only [Act.put, List.setIfInBounds_toArray, List.set_cons_zero, List.set_cons_succ]
          refine wpAnyH_take (i := 5) (oi := ⟨some 89, _, _, _, _, _⟩) (v := .int .i64 er) rfl (by kernel_rfl) (by kernel_rfl) (by kernel_rfl) (fun _ _ _ h => h) (Or.inl ⟨by rfl, fun wq hq => ?_⟩) hH ?_
          · go_simp
          simp only [Act.put, List.setIfInBounds_toArray, List.set_cons_zero, List.set_cons_succ]
          refine wpAnyH_take (i := 6) (oi := ⟨some 90, _, _, _, _, _⟩) (v := .bool false) rfl (by kernel_rfl) (by kernel_rfl) (by kernel_rfl) (fun _ _ _ h => h) (Or.inl ⟨by rfl, fun wq hq => ?_⟩) hH ?_
          · go_simp
          simp only [Act.put, List.setIfInBounds_toArray, List.set_cons_zero, List.set_cons_succ]
          refine wpAnyH_take (i := 7) (oi := ⟨some 91, _, _, _, _, _⟩) (v := .bool false) rfl (by kernel_rfl) (by kernel_rfl) (by kernel_rfl) (fun _ _ _ h => h) (Or.inl ⟨by rfl, fun wq hq => ?_⟩) hH ?_
          · go_simp
          simp only [Act.put, List.setIfInBounds_toArray, List.set_cons_zero, List.set_cons_succ]
          refine wpAnyH_take (i := 8) (oi := ⟨some 92, _, _, _, _, _⟩) (v := .bool false) rfl (by kernel_rfl) (by kernel_rfl) (by kernel_rfl) (fun _ _ _ h => h) (Or.inl ⟨by rfl, fun wq hq => ?_⟩) hH ?_
          · go_simp
          simp only [Act.put, List.setIfInBounds_toArray, List.set_cons_zero, List.set_cons_succ]
          refine wpAnyH_take (i := 9) (oi := ⟨some 93, _, _, _, _, _⟩) (v := .pointer (some ⟨fa.a, 0, none⟩)) rfl (by kernel_rfl) (by kernel_rfl) (by kernel_rfl) (fun _ _ _ h => h) (Or.inl ⟨by rfl, fun wq hq => ?_⟩) hH ?_
          · go_simp
          simp only [Act.put, List.setIfInBounds_toArray, List.set_cons_zero, List.set_cons_succ]
          refine wpAnyH_take (i := 10) (oi := ⟨some 94, _, _, _, _, _⟩) (v := .pointer (some ⟨L, 1, none⟩)) rfl (by kernel_rfl) (by kernel_rfl) (by kernel_rfl) (fun _ _ _ h => h) (Or.inl ⟨by rfl, fun wq hq => ?_⟩) hH ?_
          · go_simp
          simp only [Act.put, List.setIfInBounds_toArray, List.set_cons_zero, List.set_cons_succ]
          refine wpAnyH_take (i := 11) (oi := ⟨some 95, _, _, _, _, _⟩) (v := .int .i64 oid) rfl (by kernel_rfl) (by kernel_rfl) (by kernel_rfl) (fun _ _ _ h => h) (Or.inl ⟨by rfl, fun wq hq => ?_⟩) hH ?_
          · have q := cell_of_row _ _ 1 _ _ _ hq; go_simp
          simp only [Act.put, List.setIfInBounds_toArray, List.set_cons_zero, List.set_cons_succ]
          refine wpAnyH_take (i := 12) (oi := ⟨some 96, _, _, _, _, _⟩) (v := .pointer (some ⟨L, 3, none⟩)) rfl (by kernel_rfl) (by kernel_rfl) (by kernel_rfl) (fun _ _ _ h => h) (Or.inl ⟨by rfl, fun wq hq => ?_⟩) hH ?_
          · go_simp
          simp only [Act.put, List.setIfInBounds_toArray, List.set_cons_zero, List.set_cons_succ]
          refine wpAnyH_take (i := 13) (oi := ⟨some 97, _, _, _, _, _⟩) (v := .int .i64 ovv) rfl (by kernel_rfl) (by kernel_rfl) (by kernel_rfl) (fun _ _ _ h => h) (Or.inl ⟨by rfl, fun wq hq => ?_⟩) hH ?_
          · have q := cell_of_row _ _ 3 _ _ _ hq; go_simp
          simp only [Act.put, List.setIfInBounds_toArray, List.set_cons_zero, List.set_cons_succ]
          refine wpAnyH_take (i := 14) (oi := ⟨some 98, _, _, _, _, _⟩) (v := .pointer (some ⟨L, 2, none⟩)) rfl (by kernel_rfl) (by kernel_rfl) (by kernel_rfl) (fun _ _ _ h => h) (Or.inl ⟨by rfl, fun wq hq => ?_⟩) hH ?_
          · go_simp
          simp only [Act.put, List.setIfInBounds_toArray, List.set_cons_zero, List.set_cons_succ]
          refine wpAnyH_take (i := 15) (oi := ⟨some 99, _, _, _, _, _⟩) (v := .int .i64 on) rfl (by kernel_rfl) (by kernel_rfl) (by kernel_rfl) (fun _ _ _ h => h) (Or.inl ⟨by rfl, fun wq hq => ?_⟩) hH ?_
          · have q := cell_of_row _ _ 2 _ _ _ hq; go_simp
          simp only [Act.put, List.setIfInBounds_toArray, List.set_cons_zero, List.set_cons_succ]
          refine wpAnyH_take (i := 17) (oi := ⟨some 101, _, _, _, _, _⟩) (v := .pointer (some ⟨fb.a, 0, none⟩)) rfl (by kernel_rfl) (by kernel_rfl) (by kernel_rfl) (fun _ _ _ h => h) (Or.inl ⟨by rfl, fun wq hq => ?_⟩) hH ?_
          · go_simp
          simp only [Act.put, List.setIfInBounds_toArray, List.set_cons_zero, List.set_cons_succ]
          refine wpAnyH_take (i := 18) (oi := ⟨some 102, _, _, _, _, _⟩) (v := .pointer (some ⟨L, 1, none⟩)) rfl (by kernel_rfl) (by kernel_rfl) (by kernel_rfl) (fun _ _ _ h => h) (Or.inl ⟨by rfl, fun wq hq => ?_⟩) hH ?_
          · go_simp
          simp only [Act.put, List.setIfInBounds_toArray, List.set_cons_zero, List.set_cons_succ]
          refine wpAnyH_take (i := 19) (oi := ⟨some 103, _, _, _, _, _⟩) (v := .int .i64 oid) rfl (by kernel_rfl) (by kernel_rfl) (by kernel_rfl) (fun _ _ _ h => h) (Or.inl ⟨by rfl, fun wq hq => ?_⟩) hH ?_
          · have q := cell_of_row _ _ 1 _ _ _ hq; go_simp
          simp only [Act.put, List.setIfInBounds_toArray, List.set_cons_zero, List.set_cons_succ]
          refine wpAnyH_take (i := 20) (oi := ⟨some 104, _, _, _, _, _⟩) (v := .pointer (some ⟨L, 3, none⟩)) rfl (by kernel_rfl) (by kernel_rfl) (by kernel_rfl) (fun _ _ _ h => h) (Or.inl ⟨by rfl, fun wq hq => ?_⟩) hH ?_
          · go_simp
          simp only [Act.put, List.setIfInBounds_toArray, List.set_cons_zero, List.set_cons_succ]
          refine wpAnyH_take (i := 21) (oi := ⟨some 105, _, _, _, _, _⟩) (v := .int .i64 ovv) rfl (by kernel_rfl) (by kernel_rfl) (by kernel_rfl) (fun _ _ _ h => h) (Or.inl ⟨by rfl, fun wq hq => ?_⟩) hH ?_
          · have q := cell_of_row _ _ 3 _ _ _ hq; go_simp
          simp only [Act.put, List.setIfInBounds_toArray, List.set_cons_zero, List.set_cons_succ]
          refine wpAnyH_take (i := 22) (oi := ⟨some 106, _, _, _, _, _⟩) (v := .pointer (some ⟨L, 2, none⟩)) rfl (by kernel_rfl) (by kernel_rfl) (by kernel_rfl) (fun _ _ _ h => h) (Or.inl ⟨by rfl, fun wq hq => ?_⟩) hH ?_
          · go_simp
          simp only [Act.put, List.setIfInBounds_toArray, List.set_cons_zero, List.set_cons_succ]
          refine wpAnyH_take (i := 23) (oi := ⟨some 107, _, _, _, _, _⟩) (v := .int .i64 on) rfl (by kernel_rfl) (by kernel_rfl) (by kernel_rfl) (fun _ _ _ h => h) (Or.inl ⟨by rfl, fun wq hq => ?_⟩) hH ?_
          · have q := cell_of_row _ _ 2 _ _ _ hq; go_simp
          simp only [Act.put, List.setIfInBounds_toArray, List.set_cons_zero, List.set_cons_succ]
          refine wpAnyH_ready (rs := [16]) (by kernel_rfl) (by simp) (AllReadyH.cons (o := ⟨some 100, .call { callee := .value (.func 17), args := #[.tmp 93, .tmp 95, .tmp 97, .tmp 99], argTypes := #[25, 3, 3, 3] }, _, _, _, _⟩) rfl (fun K hK => ?_) AllReadyH.nil)
          rw [if_pos (by rfl)]
          refine call_step _ _ _ rfl #[.pointer (some ⟨fa.a, 0, none⟩), .int .i64 oid, .int .i64 ovv, .int .i64 on] (by simp only [List.map_toArray, List.map_cons, List.map_nil]; rfl) (.int .i64 ((setP S1 oid ovv on).1 : Int)) (fun w' => TwAt w fa fb fc (setP S1 oid ovv on).2 S1 Sc2 w' ∧ w'.heap[L]? = some (.cells #[.int .i64 2, .int .i64 oid, .int .i64 on, .int .i64 ovv] 28 (0, 0))) (by kernel_rfl) ((set_any hT.a oid ovv on).mono (fun e w'' ⟨he, hA, hM⟩ => ⟨he, hT.stepA F.out hA hM, (hM.block L (blk_lt hH) OA.out.1 OA.out.2.1 OA.out.2.2.1 OA.out.2.2.2).trans hH⟩)) K ?_
          clear hT hH
          rintro w81 ⟨hT, hH⟩
          refine hK.out _ _ hH (fun hHn => ?_)
          clear hK K hHn w7
          simp only [Act.put, List.setIfInBounds_toArray, List.set_cons_zero, List.set_cons_succ]
          refine wpAnyH_ready (rs := [24]) (by kernel_rfl) (by simp) (AllReadyH.cons (o := ⟨some 108, .call { callee := .value (.func 17), args := #[.tmp 101, .tmp 103, .tmp 105, .tmp 107], argTypes := #[25, 3, 3, 3] }, _, _, _, _⟩) rfl (fun K hK => ?_) AllReadyH.nil)
          rw [if_pos (by rfl)]
          refine call_step _ _ _ rfl #[.pointer (some ⟨fb.a, 0, none⟩), .int .i64 oid, .int .i64 ovv, .int .i64 on] (by simp only [List.map_toArray, List.map_cons, List.map_nil]; rfl) (.int .i64 ((setP S1 oid ovv on).1 : Int)) (fun w' => TwAt w fa fb fc (setP S1 oid ovv on).2 (setP S1 oid ovv on).2 Sc2 w' ∧ w'.heap[L]? = some (.cells #[.int .i64 2, .int .i64 oid, .int .i64 on, .int .i64 ovv] 28 (0, 0))) (by kernel_rfl) ((set_any hT.b oid ovv on).mono (fun e w'' ⟨he, hA, hM⟩ => ⟨he, hT.stepB F.out hA hM, (hM.block L (blk_lt hH) OB.out.1 OB.out.2.1 OB.out.2.2.1 OB.out.2.2.2).trans hH⟩)) K ?_
          clear hT hH
          rintro w82 ⟨hT, hH⟩
          refine hK.out _ _ hH (fun hHn => ?_)
          clear hK K hHn w81
          simp only [Act.put, List.setIfInBounds_toArray, List.set_cons_zero, List.set_cons_succ]
          have hlast2 := setP_last S1 oid ovv on
          generalize (setP S1 oid ovv on).2 = S2 at *
          generalize ((setP S1 oid ovv on).1 : Int) = sv at *
          refine wpAnyH_take (i := 25) (oi := ⟨some 109, _, _, _, _, _⟩) (v := .bool false) rfl (by kernel_rfl) (by kernel_rfl) (by kernel_rfl) (fun _ _ _ h => h) (Or.inl ⟨by rfl, fun wq hq => ?_⟩) hH ?_
          · go_simp
          simp only [Act.put, List.setIfInBounds_toArray, List.set_cons_zero, List.set_cons_succ]
          refine wpAnyH_take (i := 26) (oi := ⟨some 110, _, _, _, _, _⟩) (v := .bool false) rfl (by kernel_rfl) (by kernel_rfl) (by kernel_rfl) (fun _ _ _ h => h) (Or.inl ⟨by rfl, fun wq hq => ?_⟩) hH ?_
          · go_simp
          simp only [Act.put, List.setIfInBounds_toArray, List.set_cons_zero, List.set_cons_succ]
          refine wpAnyH_take (i := 27) (oi := ⟨some 111, _, _, _, _, _⟩) (v := .bool false) rfl (by kernel_rfl) (by kernel_rfl) (by kernel_rfl) (fun _ _ _ h => h) (Or.inl ⟨by rfl, fun wq hq => ?_⟩) hH ?_
          · go_simp
          simp only [Act.put, List.setIfInBounds_toArray, List.set_cons_zero, List.set_cons_succ]
          refine wpAnyH_take (i := 28) (oi := ⟨some 112, _, _, _, _, _⟩) (v := .pointer (some ⟨L, 0, none⟩)) rfl (by kernel_rfl) (by kernel_rfl) (by kernel_rfl) (fun _ _ _ h => h) (Or.inl ⟨by rfl, fun wq hq => ?_⟩) hH ?_
          · go_simp
          simp only [Act.put, List.setIfInBounds_toArray, List.set_cons_zero, List.set_cons_succ]
          refine wpAnyH_take (i := 29) (oi := ⟨some 113, _, _, _, _, _⟩) (v := .int .i64 2) rfl (by kernel_rfl) (by kernel_rfl) (by kernel_rfl) (fun _ _ _ h => h) (Or.inl ⟨by rfl, fun wq hq => ?_⟩) hH ?_
          · have q := cell_of_row _ _ 0 _ _ _ hq; go_simp
          simp only [Act.put, List.setIfInBounds_toArray, List.set_cons_zero, List.set_cons_succ]
          refine wpAnyH_take (i := 30) (oi := ⟨some 114, _, _, _, _, _⟩) (v := .bool true) rfl (by kernel_rfl) (by kernel_rfl) (by kernel_rfl) (fun _ _ _ h => h) (Or.inl ⟨by rfl, fun wq hq => ?_⟩) hH ?_
          · go_simp
          simp only [Act.put, List.setIfInBounds_toArray, List.set_cons_zero, List.set_cons_succ]
          refine wpAnyH_take (i := 31) (oi := ⟨some 115, _, _, _, _, _⟩) (v := .bool true) rfl (by kernel_rfl) (by kernel_rfl) (by kernel_rfl) (fun _ _ _ h => h) (Or.inl ⟨by rfl, fun wq hq => ?_⟩) hH ?_
          · go_simp
          simp only [Act.put, List.setIfInBounds_toArray, List.set_cons_zero, List.set_cons_succ]
          refine wpAnyH_take (i := 32) (oi := ⟨some 116, _, _, _, _, _⟩) (v := .pointer (some ⟨fa.a, 0, none⟩)) rfl (by kernel_rfl) (by kernel_rfl) (by kernel_rfl) (fun _ _ _ h => h) (Or.inl ⟨by rfl, fun wq hq => ?_⟩) hH ?_
          · go_simp
          simp only [Act.put, List.setIfInBounds_toArray, List.set_cons_zero, List.set_cons_succ]
          refine wpAnyH_take (i := 33) (oi := ⟨some 117, _, _, _, _, _⟩) (v := .pointer (some ⟨L, 1, none⟩)) rfl (by kernel_rfl) (by kernel_rfl) (by kernel_rfl) (fun _ _ _ h => h) (Or.inl ⟨by rfl, fun wq hq => ?_⟩) hH ?_
          · go_simp
          simp only [Act.put, List.setIfInBounds_toArray, List.set_cons_zero, List.set_cons_succ]
          refine wpAnyH_take (i := 34) (oi := ⟨some 118, _, _, _, _, _⟩) (v := .int .i64 oid) rfl (by kernel_rfl) (by kernel_rfl) (by kernel_rfl) (fun _ _ _ h => h) (Or.inl ⟨by rfl, fun wq hq => ?_⟩) hH ?_
          · have q := cell_of_row _ _ 1 _ _ _ hq; go_simp
          simp only [Act.put, List.setIfInBounds_toArray, List.set_cons_zero, List.set_cons_succ]
          refine wpAnyH_take (i := 36) (oi := ⟨some 120, _, _, _, _, _⟩) (v := .pointer (some ⟨fb.a, 0, none⟩)) rfl (by kernel_rfl) (by kernel_rfl) (by kernel_rfl) (fun _ _ _ h => h) (Or.inl ⟨by rfl, fun wq hq => ?_⟩) hH ?_
          · go_simp
          simp only [Act.put, List.setIfInBounds_toArray, List.set_cons_zero, List.set_cons_succ]
          refine wpAnyH_take (i := 37) (oi := ⟨some 121, _, _, _, _, _⟩) (v := .pointer (some ⟨L, 1, none⟩)) rfl (by kernel_rfl) (by kernel_rfl) (by kernel_rfl) (fun _ _ _ h => h) (Or.inl ⟨by rfl, fun wq hq => ?_⟩) hH ?_
          · go_simp
          simp only [Act.put, List.setIfInBounds_toArray, List.set_cons_zero, List.set_cons_succ]
          refine wpAnyH_take (i := 38) (oi := ⟨some 122, _, _, _, _, _⟩) (v := .int .i64 oid) rfl (by kernel_rfl) (by kernel_rfl) (by kernel_rfl) (fun _ _ _ h => h) (Or.inl ⟨by rfl, fun wq hq => ?_⟩) hH ?_
          · have q := cell_of_row _ _ 1 _ _ _ hq; go_simp
          simp only [Act.put, List.setIfInBounds_toArray, List.set_cons_zero, List.set_cons_succ]
          refine wpAnyH_ready (rs := [35]) (by kernel_rfl) (by simp) (AllReadyH.cons (o := ⟨some 119, .call { callee := .value (.func 18), args := #[.tmp 116, .tmp 118], argTypes := #[25, 3] }, _, _, _, _⟩) rfl (fun K hK => ?_) AllReadyH.nil)
          rw [if_pos (by rfl)]
          refine call_step _ _ _ rfl #[.pointer (some ⟨fa.a, 0, none⟩), .int .i64 oid] (by simp only [List.map_toArray, List.map_cons, List.map_nil]; rfl) (.int .i64 ((freeP S2 oid).1 : Int)) (fun w' => TwAt w fa fb fc (freeP S2 oid).2 S2 Sc2 w' ∧ w'.heap[L]? = some (.cells #[.int .i64 2, .int .i64 oid, .int .i64 on, .int .i64 ovv] 28 (0, 0))) (by kernel_rfl) ((free_any hT.a oid).mono (fun e w'' ⟨he, hA, hM⟩ => ⟨he, hT.stepA F.out hA hM, (hM.block L (blk_lt hH) OA.out.1 OA.out.2.1 OA.out.2.2.1 OA.out.2.2.2).trans hH⟩)) K ?_
          clear hT hH
          rintro w83 ⟨hT, hH⟩
          refine hK.out _ _ hH (fun hHn => ?_)
          clear hK K hHn w82
          simp only [Act.put, List.setIfInBounds_toArray, List.set_cons_zero, List.set_cons_succ]
          refine wpAnyH_ready (rs := [39]) (by kernel_rfl) (by simp) (AllReadyH.cons (o := ⟨some 123, .call { callee := .value (.func 18), args := #[.tmp 120, .tmp 122], argTypes := #[25, 3] }, _, _, _, _⟩) rfl (fun K hK => ?_) AllReadyH.nil)
          rw [if_pos (by rfl)]
          refine call_step _ _ _ rfl #[.pointer (some ⟨fb.a, 0, none⟩), .int .i64 oid] (by simp only [List.map_toArray, List.map_cons, List.map_nil]; rfl) (.int .i64 ((freeP S2 oid).1 : Int)) (fun w' => TwAt w fa fb fc (freeP S2 oid).2 (freeP S2 oid).2 Sc2 w' ∧ w'.heap[L]? = some (.cells #[.int .i64 2, .int .i64 oid, .int .i64 on, .int .i64 ovv] 28 (0, 0))) (by kernel_rfl) ((free_any hT.b oid).mono (fun e w'' ⟨he, hA, hM⟩ => ⟨he, hT.stepB F.out hA hM, (hM.block L (blk_lt hH) OB.out.1 OB.out.2.1 OB.out.2.2.1 OB.out.2.2.2).trans hH⟩)) K ?_
          clear hT hH
          rintro w84 ⟨hT, hH⟩
          refine hK.out _ _ hH (fun hHn => ?_)
          clear hK K hHn w83
          simp only [Act.put, List.setIfInBounds_toArray, List.set_cons_zero, List.set_cons_succ]
          have hlast3 := freeP_last S2 oid
          generalize (freeP S2 oid).2 = S3 at *
          generalize ((freeP S2 oid).1 : Int) = fv at *
          refine wpAnyH_take (i := 40) (oi := ⟨some 124, _, _, _, _, _⟩) (v := .bool false) rfl (by kernel_rfl) (by kernel_rfl) (by kernel_rfl) (fun _ _ _ h => h) (Or.inl ⟨by rfl, fun wq hq => ?_⟩) hH ?_
          · go_simp
          simp only [Act.put, List.setIfInBounds_toArray, List.set_cons_zero, List.set_cons_succ]
          refine wpAnyH_take (i := 41) (oi := ⟨some 125, _, _, _, _, _⟩) (v := .bool false) rfl (by kernel_rfl) (by kernel_rfl) (by kernel_rfl) (fun _ _ _ h => h) (Or.inl ⟨by rfl, fun wq hq => ?_⟩) hH ?_
          · go_simp
          simp only [Act.put, List.setIfInBounds_toArray, List.set_cons_zero, List.set_cons_succ]
          refine wpAnyH_take (i := 42) (oi := ⟨some 126, _, _, _, _, _⟩) (v := .bool false) rfl (by kernel_rfl) (by kernel_rfl) (by kernel_rfl) (fun _ _ _ h => h) (Or.inl ⟨by rfl, fun wq hq => ?_⟩) hH ?_
          · go_simp
          simp only [Act.put, List.setIfInBounds_toArray, List.set_cons_zero, List.set_cons_succ]
          refine wpAnyH_take (i := 43) (oi := ⟨some 127, _, _, _, _, _⟩) (v := .bool false) rfl (by kernel_rfl) (by kernel_rfl) (by kernel_rfl) (fun _ _ _ h => h) (Or.inl ⟨by rfl, fun wq hq => ?_⟩) hH ?_
          · go_simp
          simp only [Act.put, List.setIfInBounds_toArray, List.set_cons_zero, List.set_cons_succ]
          refine wpAnyH_take (i := 44) (oi := ⟨some 128, _, _, _, _, _⟩) (v := .pointer (some ⟨fa.a, 0, none⟩)) rfl (by kernel_rfl) (by kernel_rfl) (by kernel_rfl) (fun _ _ _ h => h) (Or.inl ⟨by rfl, fun wq hq => ?_⟩) hH ?_
          · go_simp
          simp only [Act.put, List.setIfInBounds_toArray, List.set_cons_zero, List.set_cons_succ]
          refine wpAnyH_take (i := 46) (oi := ⟨some 130, _, _, _, _, _⟩) (v := .pointer (some ⟨fb.a, 0, none⟩)) rfl (by kernel_rfl) (by kernel_rfl) (by kernel_rfl) (fun _ _ _ h => h) (Or.inl ⟨by rfl, fun wq hq => ?_⟩) hH ?_
          · go_simp
          simp only [Act.put, List.setIfInBounds_toArray, List.set_cons_zero, List.set_cons_succ]
          refine wpAnyH_ready (rs := [45]) (by kernel_rfl) (by simp) (AllReadyH.cons (o := ⟨some 129, .call { callee := .value (.func 19), args := #[.tmp 128], argTypes := #[25] }, _, _, _, _⟩) rfl (fun K hK => ?_) AllReadyH.nil)
          rw [if_pos (by rfl)]
          refine call_step _ _ _ rfl #[.pointer (some ⟨fa.a, 0, none⟩)] (by simp only [List.map_toArray, List.map_cons, List.map_nil]; rfl) (.int .i64 (S3.left : Int)) (fun w' => TwAt w fa fb fc S3 S3 Sc2 w' ∧ w'.heap[L]? = some (.cells #[.int .i64 2, .int .i64 oid, .int .i64 on, .int .i64 ovv] 28 (0, 0))) (by kernel_rfl) ((left_any hT.a).mono (fun e w'' ⟨he, hw⟩ => by subst hw; exact ⟨he, hT, hH⟩)) K ?_
          clear hT hH
          rintro w85 ⟨hT, hH⟩
          refine hK.out _ _ hH (fun hHn => ?_)
          clear hK K hHn w84
          simp only [Act.put, List.setIfInBounds_toArray, List.set_cons_zero, List.set_cons_succ]
          refine wpAnyH_ready (rs := [47]) (by kernel_rfl) (by simp) (AllReadyH.cons (o := ⟨some 131, .call { callee := .value (.func 19), args := #[.tmp 130], argTypes := #[25] }, _, _, _, _⟩) rfl (fun K hK => ?_) AllReadyH.nil)
          rw [if_pos (by rfl)]
          refine call_step _ _ _ rfl #[.pointer (some ⟨fb.a, 0, none⟩)] (by simp only [List.map_toArray, List.map_cons, List.map_nil]; rfl) (.int .i64 (S3.left : Int)) (fun w' => TwAt w fa fb fc S3 S3 Sc2 w' ∧ w'.heap[L]? = some (.cells #[.int .i64 2, .int .i64 oid, .int .i64 on, .int .i64 ovv] 28 (0, 0))) (by kernel_rfl) ((left_any hT.b).mono (fun e w'' ⟨he, hw⟩ => by subst hw; exact ⟨he, hT, hH⟩)) K ?_
          clear hT hH
          rintro w86 ⟨hT, hH⟩
          refine hK.out _ _ hH (fun hHn => ?_)
          clear hK K hHn w85
          simp only [Act.put, List.setIfInBounds_toArray, List.set_cons_zero, List.set_cons_succ]
          refine wpAnyH_take (i := 48) (oi := ⟨some 132, _, _, _, _, _⟩) (v := .bool false) rfl (by kernel_rfl) (by kernel_rfl) (by kernel_rfl) (fun _ _ _ h => h) (Or.inl ⟨by rfl, fun wq hq => ?_⟩) hH ?_
          · go_simp
          simp only [Act.put, List.setIfInBounds_toArray, List.set_cons_zero, List.set_cons_succ]
          refine wpAnyH_take (i := 49) (oi := ⟨some 133, _, _, _, _, _⟩) (v := .bool false) rfl (by kernel_rfl) (by kernel_rfl) (by kernel_rfl) (fun _ _ _ h => h) (Or.inl ⟨by rfl, fun wq hq => ?_⟩) hH ?_
          · go_simp
          simp only [Act.put, List.setIfInBounds_toArray, List.set_cons_zero, List.set_cons_succ]
          refine wpAnyH_take (i := 50) (oi := ⟨some 134, _, _, _, _, _⟩) (v := .bool false) rfl (by kernel_rfl) (by kernel_rfl) (by kernel_rfl) (fun _ _ _ h => h) (Or.inl ⟨by rfl, fun wq hq => ?_⟩) hH ?_
          · go_simp
          simp only [Act.put, List.setIfInBounds_toArray, List.set_cons_zero, List.set_cons_succ]
          refine wpAnyH_take (i := 51) (oi := ⟨some 135, _, _, _, _, _⟩) (v := .pointer (some ⟨fa.a, 0, none⟩)) rfl (by kernel_rfl) (by kernel_rfl) (by kernel_rfl) (fun _ _ _ h => h) (Or.inl ⟨by rfl, fun wq hq => ?_⟩) hH ?_
          · go_simp
          simp only [Act.put, List.setIfInBounds_toArray, List.set_cons_zero, List.set_cons_succ]
          refine wpAnyH_take (i := 52) (oi := ⟨some 136, _, _, _, _, _⟩) (v := .int .i64 x) rfl (by kernel_rfl) (by kernel_rfl) (by kernel_rfl) (fun _ _ _ h => h) (Or.inl ⟨by rfl, fun wq hq => ?_⟩) hH ?_
          · go_simp
          simp only [Act.put, List.setIfInBounds_toArray, List.set_cons_zero, List.set_cons_succ]
          refine wpAnyH_take (i := 54) (oi := ⟨some 138, _, _, _, _, _⟩) (v := .pointer (some ⟨fb.a, 0, none⟩)) rfl (by kernel_rfl) (by kernel_rfl) (by kernel_rfl) (fun _ _ _ h => h) (Or.inl ⟨by rfl, fun wq hq => ?_⟩) hH ?_
          · go_simp
          simp only [Act.put, List.setIfInBounds_toArray, List.set_cons_zero, List.set_cons_succ]
          refine wpAnyH_take (i := 55) (oi := ⟨some 139, _, _, _, _, _⟩) (v := .int .i64 x) rfl (by kernel_rfl) (by kernel_rfl) (by kernel_rfl) (fun _ _ _ h => h) (Or.inl ⟨by rfl, fun wq hq => ?_⟩) hH ?_
          · go_simp
          simp only [Act.put, List.setIfInBounds_toArray, List.set_cons_zero, List.set_cons_succ]
          refine wpAnyH_ready (rs := [53]) (by kernel_rfl) (by simp) (AllReadyH.cons (o := ⟨some 137, .call { callee := .value (.func 20), args := #[.tmp 135, .tmp 136], argTypes := #[25, 3] }, _, _, _, _⟩) rfl (fun K hK => ?_) AllReadyH.nil)
          rw [if_pos (by rfl)]
          refine call_step _ _ _ rfl #[.pointer (some ⟨fa.a, 0, none⟩), .int .i64 x] (by simp only [List.map_toArray, List.map_cons, List.map_nil]; rfl) (.int .i64 (baseP S3 x)) (fun w' => TwAt w fa fb fc S3 S3 Sc2 w' ∧ w'.heap[L]? = some (.cells #[.int .i64 2, .int .i64 oid, .int .i64 on, .int .i64 ovv] 28 (0, 0))) (by kernel_rfl) ((base_any hT.a x).mono (fun e w'' ⟨he, hb⟩ => ⟨he, hT.keep hb, blk_below hH hb⟩)) K ?_
          clear hT hH
          rintro w87 ⟨hT, hH⟩
          refine hK.out _ _ hH (fun hHn => ?_)
          clear hK K hHn w86
          simp only [Act.put, List.setIfInBounds_toArray, List.set_cons_zero, List.set_cons_succ]
          refine wpAnyH_ready (rs := [56]) (by kernel_rfl) (by simp) (AllReadyH.cons (o := ⟨some 140, .call { callee := .value (.func 20), args := #[.tmp 138, .tmp 139], argTypes := #[25, 3] }, _, _, _, _⟩) rfl (fun K hK => ?_) AllReadyH.nil)
          rw [if_pos (by rfl)]
          refine call_step _ _ _ rfl #[.pointer (some ⟨fb.a, 0, none⟩), .int .i64 x] (by simp only [List.map_toArray, List.map_cons, List.map_nil]; rfl) (.int .i64 (baseP S3 x)) (fun w' => TwAt w fa fb fc S3 S3 Sc2 w' ∧ w'.heap[L]? = some (.cells #[.int .i64 2, .int .i64 oid, .int .i64 on, .int .i64 ovv] 28 (0, 0))) (by kernel_rfl) ((base_any hT.b x).mono (fun e w'' ⟨he, hb⟩ => ⟨he, hT.keep hb, blk_below hH hb⟩)) K ?_
          clear hT hH
          rintro w88 ⟨hT, hH⟩
          refine hK.out _ _ hH (fun hHn => ?_)
          clear hK K hHn w87
          simp only [Act.put, List.setIfInBounds_toArray, List.set_cons_zero, List.set_cons_succ]
          refine wpAnyH_take (i := 57) (oi := ⟨some 141, _, _, _, _, _⟩) (v := .bool false) rfl (by kernel_rfl) (by kernel_rfl) (by kernel_rfl) (fun _ _ _ h => h) (Or.inl ⟨by rfl, fun wq hq => ?_⟩) hH ?_
          · go_simp
          simp only [Act.put, List.setIfInBounds_toArray, List.set_cons_zero, List.set_cons_succ]
          refine wpAnyH_take (i := 58) (oi := ⟨some 142, _, _, _, _, _⟩) (v := .bool false) rfl (by kernel_rfl) (by kernel_rfl) (by kernel_rfl) (fun _ _ _ h => h) (Or.inl ⟨by rfl, fun wq hq => ?_⟩) hH ?_
          · go_simp
          simp only [Act.put, List.setIfInBounds_toArray, List.set_cons_zero, List.set_cons_succ]
          refine wpAnyH_done (by kernel_rfl) ?_ _
          refine NoPanic.normal ?_
          have TE := Lib.hid hT
          clear hT hH
          go_wp2
          go_roundw
          case rel => exact ⟨k + 1, S3, _, by omega, by go_num, by omega, by omega, TE.out⟩
          case measure => simp [intOf]; omega
        · have d5 : decide (ok = 2) = false := by simp [hk2']
          go_wp2_with fail
          refine (alloc_any T2.out.a on (by omega)).mono ?_
          rintro e w5 ⟨rfl, hA, hM⟩
          have T3 := Lib.hid (T2.out.stepA F.out hA hM)
          have HL3 := Lib.hid ((hM.block L (blk_lt HL.out) OA.out.1 OA.out.2.1 OA.out.2.2.1 OA.out.2.2.2).trans HL.out)
          have lc2' : w5.cell? ⟨L, 2, none⟩ = some (.int .i64 on) := cell_of_row _ _ 2 _ _ _ HL3.out
          clear hA hM T2 HL lc2
          go_wp2_with fail
          refine (alloc_any T3.out.b on (by omega)).mono ?_
          rintro e w6 ⟨rfl, hA, hM⟩
          have T4 := Lib.hid (T3.out.stepB F.out hA hM)
          have HL4 := Lib.hid ((hM.block L (blk_lt HL3.out) OB.out.1 OB.out.2.1 OB.out.2.2.1 OB.out.2.2.2).trans HL3.out)
          have hlast := allocP_last S on
          clear hA hM T3 HL3 lc2'
          generalize (allocP S on).2.2 = S1 at *
          generalize ((allocP S on).1 : Int) = x at *
          generalize ((allocP S on).2.1 : Int) = er at *
          go_wp2
          refine wp_region_noPanic ?_
          refine wp_region_held_drew (S := (fun w' => w'.heap[L]? = some (.cells #[.int .i64 ok, .int .i64 oid, .int .i64 on, .int .i64 ovv] 28 (0, 0)))) (by kernel_rfl) (HL4.out) (fun hH => ?_)
          have hT : TwAt w fa fb fc S1 S1 Sc2 w6.drew := T4.out.keep (below_drewN (Below.refl _ _) 1)
          clear T4 HL4
          generalize w6.drew = w7 at *
          refine wpAnyH_take (i := 0) (oi := ⟨some 84, _, _, _, _, _⟩) (v := .int .i64 x) rfl (by kernel_rfl) (by kernel_rfl) (by kernel_rfl) (fun _ _ _ h => h) (Or.inl ⟨by rfl, fun wq hq => ?_⟩) hH ?_
          · go_simp
          simp only [Act.put, List.setIfInBounds_toArray, List.set_cons_zero, List.set_cons_succ]
          refine wpAnyH_take (i := 1) (oi := ⟨some 85, _, _, _, _, _⟩) (v := .int .i64 x) rfl (by kernel_rfl) (by kernel_rfl) (by kernel_rfl) (fun _ _ _ h => h) (Or.inl ⟨by rfl, fun wq hq => ?_⟩) hH ?_
          · go_simp
          simp only [Act.put, List.setIfInBounds_toArray, List.set_cons_zero, List.set_cons_succ]
          refine wpAnyH_take (i := 2) (oi := ⟨some 86, _, _, _, _, _⟩) (v := .bool false) rfl (by kernel_rfl) (by kernel_rfl) (by kernel_rfl) (fun _ _ _ h => h) (Or.inl ⟨by rfl, fun wq hq => ?_⟩) hH ?_
          · go_simp
          simp only [Act.put, List.setIfInBounds_toArray, List.set_cons_zero, List.set_cons_succ]
          refine wpAnyH_take (i := 3) (oi := ⟨some 87, _, _, _, _, _⟩) (v := .bool false) rfl (by kernel_rfl) (by kernel_rfl) (by kernel_rfl) (fun _ _ _ h => h) (Or.inl ⟨by rfl, fun wq hq => ?_⟩) hH ?_
          · go_simp
          simp only [Act.put, List.setIfInBounds_toArray, List.set_cons_zero, List.set_cons_succ]
          refine wpAnyH_take (i := 4) (oi := ⟨some 88, _, _, _, _, _⟩) (v := .int .i64 er) rfl (by kernel_rfl) (by kernel_rfl) (by kernel_rfl) (fun _ _ _ h => h) (Or.inl ⟨by rfl, fun wq hq => ?_⟩) hH ?_
          · go_simp
          simp only [Act.put, List.setIfInBounds_toArray, List.set_cons_zero, List.set_cons_succ]
          refine wpAnyH_take (i := 5) (oi := ⟨some 89, _, _, _, _, _⟩) (v := .int .i64 er) rfl (by kernel_rfl) (by kernel_rfl) (by kernel_rfl) (fun _ _ _ h => h) (Or.inl ⟨by rfl, fun wq hq => ?_⟩) hH ?_
          · go_simp
          simp only [Act.put, List.setIfInBounds_toArray, List.set_cons_zero, List.set_cons_succ]
          refine wpAnyH_take (i := 6) (oi := ⟨some 90, _, _, _, _, _⟩) (v := .bool false) rfl (by kernel_rfl) (by kernel_rfl) (by kernel_rfl) (fun _ _ _ h => h) (Or.inl ⟨by rfl, fun wq hq => ?_⟩) hH ?_
          · go_simp
          simp only [Act.put, List.setIfInBounds_toArray, List.set_cons_zero, List.set_cons_succ]
          refine wpAnyH_take (i := 7) (oi := ⟨some 91, _, _, _, _, _⟩) (v := .bool false) rfl (by kernel_rfl) (by kernel_rfl) (by kernel_rfl) (fun _ _ _ h => h) (Or.inl ⟨by rfl, fun wq hq => ?_⟩) hH ?_
          · go_simp
          simp only [Act.put, List.setIfInBounds_toArray, List.set_cons_zero, List.set_cons_succ]
          refine wpAnyH_take (i := 8) (oi := ⟨some 92, _, _, _, _, _⟩) (v := .bool false) rfl (by kernel_rfl) (by kernel_rfl) (by kernel_rfl) (fun _ _ _ h => h) (Or.inl ⟨by rfl, fun wq hq => ?_⟩) hH ?_
          · go_simp
          simp only [Act.put, List.setIfInBounds_toArray, List.set_cons_zero, List.set_cons_succ]
          refine wpAnyH_take (i := 9) (oi := ⟨some 93, _, _, _, _, _⟩) (v := .pointer (some ⟨fa.a, 0, none⟩)) rfl (by kernel_rfl) (by kernel_rfl) (by kernel_rfl) (fun _ _ _ h => h) (Or.inl ⟨by rfl, fun wq hq => ?_⟩) hH ?_
          · go_simp
          simp only [Act.put, List.setIfInBounds_toArray, List.set_cons_zero, List.set_cons_succ]
          refine wpAnyH_take (i := 10) (oi := ⟨some 94, _, _, _, _, _⟩) (v := .pointer (some ⟨L, 1, none⟩)) rfl (by kernel_rfl) (by kernel_rfl) (by kernel_rfl) (fun _ _ _ h => h) (Or.inl ⟨by rfl, fun wq hq => ?_⟩) hH ?_
          · go_simp
          simp only [Act.put, List.setIfInBounds_toArray, List.set_cons_zero, List.set_cons_succ]
          refine wpAnyH_take (i := 11) (oi := ⟨some 95, _, _, _, _, _⟩) (v := .int .i64 oid) rfl (by kernel_rfl) (by kernel_rfl) (by kernel_rfl) (fun _ _ _ h => h) (Or.inl ⟨by rfl, fun wq hq => ?_⟩) hH ?_
          · have q := cell_of_row _ _ 1 _ _ _ hq; go_simp
          simp only [Act.put, List.setIfInBounds_toArray, List.set_cons_zero, List.set_cons_succ]
          refine wpAnyH_take (i := 12) (oi := ⟨some 96, _, _, _, _, _⟩) (v := .pointer (some ⟨L, 3, none⟩)) rfl (by kernel_rfl) (by kernel_rfl) (by kernel_rfl) (fun _ _ _ h => h) (Or.inl ⟨by rfl, fun wq hq => ?_⟩) hH ?_
          · go_simp
          simp only [Act.put, List.setIfInBounds_toArray, List.set_cons_zero, List.set_cons_succ]
          refine wpAnyH_take (i := 13) (oi := ⟨some 97, _, _, _, _, _⟩) (v := .int .i64 ovv) rfl (by kernel_rfl) (by kernel_rfl) (by kernel_rfl) (fun _ _ _ h => h) (Or.inl ⟨by rfl, fun wq hq => ?_⟩) hH ?_
          · have q := cell_of_row _ _ 3 _ _ _ hq; go_simp
          simp only [Act.put, List.setIfInBounds_toArray, List.set_cons_zero, List.set_cons_succ]
          refine wpAnyH_take (i := 14) (oi := ⟨some 98, _, _, _, _, _⟩) (v := .pointer (some ⟨L, 2, none⟩)) rfl (by kernel_rfl) (by kernel_rfl) (by kernel_rfl) (fun _ _ _ h => h) (Or.inl ⟨by rfl, fun wq hq => ?_⟩) hH ?_
          · go_simp
          simp only [Act.put, List.setIfInBounds_toArray, List.set_cons_zero, List.set_cons_succ]
          refine wpAnyH_take (i := 15) (oi := ⟨some 99, _, _, _, _, _⟩) (v := .int .i64 on) rfl (by kernel_rfl) (by kernel_rfl) (by kernel_rfl) (fun _ _ _ h => h) (Or.inl ⟨by rfl, fun wq hq => ?_⟩) hH ?_
          · have q := cell_of_row _ _ 2 _ _ _ hq; go_simp
          simp only [Act.put, List.setIfInBounds_toArray, List.set_cons_zero, List.set_cons_succ]
          refine wpAnyH_take (i := 17) (oi := ⟨some 101, _, _, _, _, _⟩) (v := .pointer (some ⟨fb.a, 0, none⟩)) rfl (by kernel_rfl) (by kernel_rfl) (by kernel_rfl) (fun _ _ _ h => h) (Or.inl ⟨by rfl, fun wq hq => ?_⟩) hH ?_
          · go_simp
          simp only [Act.put, List.setIfInBounds_toArray, List.set_cons_zero, List.set_cons_succ]
          refine wpAnyH_take (i := 18) (oi := ⟨some 102, _, _, _, _, _⟩) (v := .pointer (some ⟨L, 1, none⟩)) rfl (by kernel_rfl) (by kernel_rfl) (by kernel_rfl) (fun _ _ _ h => h) (Or.inl ⟨by rfl, fun wq hq => ?_⟩) hH ?_
          · go_simp
          simp only [Act.put, List.setIfInBounds_toArray, List.set_cons_zero, List.set_cons_succ]
          refine wpAnyH_take (i := 19) (oi := ⟨some 103, _, _, _, _, _⟩) (v := .int .i64 oid) rfl (by kernel_rfl) (by kernel_rfl) (by kernel_rfl) (fun _ _ _ h => h) (Or.inl ⟨by rfl, fun wq hq => ?_⟩) hH ?_
          · have q := cell_of_row _ _ 1 _ _ _ hq; go_simp
          simp only [Act.put, List.setIfInBounds_toArray, List.set_cons_zero, List.set_cons_succ]
          refine wpAnyH_take (i := 20) (oi := ⟨some 104, _, _, _, _, _⟩) (v := .pointer (some ⟨L, 3, none⟩)) rfl (by kernel_rfl) (by kernel_rfl) (by kernel_rfl) (fun _ _ _ h => h) (Or.inl ⟨by rfl, fun wq hq => ?_⟩) hH ?_
          · go_simp
          simp only [Act.put, List.setIfInBounds_toArray, List.set_cons_zero, List.set_cons_succ]
          refine wpAnyH_take (i := 21) (oi := ⟨some 105, _, _, _, _, _⟩) (v := .int .i64 ovv) rfl (by kernel_rfl) (by kernel_rfl) (by kernel_rfl) (fun _ _ _ h => h) (Or.inl ⟨by rfl, fun wq hq => ?_⟩) hH ?_
          · have q := cell_of_row _ _ 3 _ _ _ hq; go_simp
          simp only [Act.put, List.setIfInBounds_toArray, List.set_cons_zero, List.set_cons_succ]
          refine wpAnyH_take (i := 22) (oi := ⟨some 106, _, _, _, _, _⟩) (v := .pointer (some ⟨L, 2, none⟩)) rfl (by kernel_rfl) (by kernel_rfl) (by kernel_rfl) (fun _ _ _ h => h) (Or.inl ⟨by rfl, fun wq hq => ?_⟩) hH ?_
          · go_simp
          simp only [Act.put, List.setIfInBounds_toArray, List.set_cons_zero, List.set_cons_succ]
          refine wpAnyH_take (i := 23) (oi := ⟨some 107, _, _, _, _, _⟩) (v := .int .i64 on) rfl (by kernel_rfl) (by kernel_rfl) (by kernel_rfl) (fun _ _ _ h => h) (Or.inl ⟨by rfl, fun wq hq => ?_⟩) hH ?_
          · have q := cell_of_row _ _ 2 _ _ _ hq; go_simp
          simp only [Act.put, List.setIfInBounds_toArray, List.set_cons_zero, List.set_cons_succ]
          refine wpAnyH_ready (rs := [16]) (by kernel_rfl) (by simp) (AllReadyH.cons (o := ⟨some 100, .call { callee := .value (.func 17), args := #[.tmp 93, .tmp 95, .tmp 97, .tmp 99], argTypes := #[25, 3, 3, 3] }, _, _, _, _⟩) rfl (fun K hK => ?_) AllReadyH.nil)
          rw [if_pos (by rfl)]
          refine call_step _ _ _ rfl #[.pointer (some ⟨fa.a, 0, none⟩), .int .i64 oid, .int .i64 ovv, .int .i64 on] (by simp only [List.map_toArray, List.map_cons, List.map_nil]; rfl) (.int .i64 ((setP S1 oid ovv on).1 : Int)) (fun w' => TwAt w fa fb fc (setP S1 oid ovv on).2 S1 Sc2 w' ∧ w'.heap[L]? = some (.cells #[.int .i64 ok, .int .i64 oid, .int .i64 on, .int .i64 ovv] 28 (0, 0))) (by kernel_rfl) ((set_any hT.a oid ovv on).mono (fun e w'' ⟨he, hA, hM⟩ => ⟨he, hT.stepA F.out hA hM, (hM.block L (blk_lt hH) OA.out.1 OA.out.2.1 OA.out.2.2.1 OA.out.2.2.2).trans hH⟩)) K ?_
          clear hT hH
          rintro w81 ⟨hT, hH⟩
          refine hK.out _ _ hH (fun hHn => ?_)
          clear hK K hHn w7
          simp only [Act.put, List.setIfInBounds_toArray, List.set_cons_zero, List.set_cons_succ]
          refine wpAnyH_ready (rs := [24]) (by kernel_rfl) (by simp) (AllReadyH.cons (o := ⟨some 108, .call { callee := .value (.func 17), args := #[.tmp 101, .tmp 103, .tmp 105, .tmp 107], argTypes := #[25, 3, 3, 3] }, _, _, _, _⟩) rfl (fun K hK => ?_) AllReadyH.nil)
          rw [if_pos (by rfl)]
          refine call_step _ _ _ rfl #[.pointer (some ⟨fb.a, 0, none⟩), .int .i64 oid, .int .i64 ovv, .int .i64 on] (by simp only [List.map_toArray, List.map_cons, List.map_nil]; rfl) (.int .i64 ((setP S1 oid ovv on).1 : Int)) (fun w' => TwAt w fa fb fc (setP S1 oid ovv on).2 (setP S1 oid ovv on).2 Sc2 w' ∧ w'.heap[L]? = some (.cells #[.int .i64 ok, .int .i64 oid, .int .i64 on, .int .i64 ovv] 28 (0, 0))) (by kernel_rfl) ((set_any hT.b oid ovv on).mono (fun e w'' ⟨he, hA, hM⟩ => ⟨he, hT.stepB F.out hA hM, (hM.block L (blk_lt hH) OB.out.1 OB.out.2.1 OB.out.2.2.1 OB.out.2.2.2).trans hH⟩)) K ?_
          clear hT hH
          rintro w82 ⟨hT, hH⟩
          refine hK.out _ _ hH (fun hHn => ?_)
          clear hK K hHn w81
          simp only [Act.put, List.setIfInBounds_toArray, List.set_cons_zero, List.set_cons_succ]
          have hlast2 := setP_last S1 oid ovv on
          generalize (setP S1 oid ovv on).2 = S2 at *
          generalize ((setP S1 oid ovv on).1 : Int) = sv at *
          refine wpAnyH_take (i := 25) (oi := ⟨some 109, _, _, _, _, _⟩) (v := .bool false) rfl (by kernel_rfl) (by kernel_rfl) (by kernel_rfl) (fun _ _ _ h => h) (Or.inl ⟨by rfl, fun wq hq => ?_⟩) hH ?_
          · go_simp
          simp only [Act.put, List.setIfInBounds_toArray, List.set_cons_zero, List.set_cons_succ]
          refine wpAnyH_take (i := 26) (oi := ⟨some 110, _, _, _, _, _⟩) (v := .bool false) rfl (by kernel_rfl) (by kernel_rfl) (by kernel_rfl) (fun _ _ _ h => h) (Or.inl ⟨by rfl, fun wq hq => ?_⟩) hH ?_
          · go_simp
          simp only [Act.put, List.setIfInBounds_toArray, List.set_cons_zero, List.set_cons_succ]
          refine wpAnyH_take (i := 27) (oi := ⟨some 111, _, _, _, _, _⟩) (v := .bool false) rfl (by kernel_rfl) (by kernel_rfl) (by kernel_rfl) (fun _ _ _ h => h) (Or.inl ⟨by rfl, fun wq hq => ?_⟩) hH ?_
          · go_simp
          simp only [Act.put, List.setIfInBounds_toArray, List.set_cons_zero, List.set_cons_succ]
          refine wpAnyH_take (i := 28) (oi := ⟨some 112, _, _, _, _, _⟩) (v := .pointer (some ⟨L, 0, none⟩)) rfl (by kernel_rfl) (by kernel_rfl) (by kernel_rfl) (fun _ _ _ h => h) (Or.inl ⟨by rfl, fun wq hq => ?_⟩) hH ?_
          · go_simp
          simp only [Act.put, List.setIfInBounds_toArray, List.set_cons_zero, List.set_cons_succ]
          refine wpAnyH_take (i := 29) (oi := ⟨some 113, _, _, _, _, _⟩) (v := .int .i64 ok) rfl (by kernel_rfl) (by kernel_rfl) (by kernel_rfl) (fun _ _ _ h => h) (Or.inl ⟨by rfl, fun wq hq => ?_⟩) hH ?_
          · have q := cell_of_row _ _ 0 _ _ _ hq; go_simp
          simp only [Act.put, List.setIfInBounds_toArray, List.set_cons_zero, List.set_cons_succ]
          refine wpAnyH_take (i := 30) (oi := ⟨some 114, _, _, _, _, _⟩) (v := .bool false) rfl (by kernel_rfl) (by kernel_rfl) (by kernel_rfl) (fun _ _ _ h => h) (Or.inl ⟨by rfl, fun wq hq => ?_⟩) hH ?_
          · go_simp
          simp only [Act.put, List.setIfInBounds_toArray, List.set_cons_zero, List.set_cons_succ]
          refine wpAnyH_take (i := 31) (oi := ⟨some 115, _, _, _, _, _⟩) (v := .bool false) rfl (by kernel_rfl) (by kernel_rfl) (by kernel_rfl) (fun _ _ _ h => h) (Or.inl ⟨by rfl, fun wq hq => ?_⟩) hH ?_
          · go_simp
          simp only [Act.put, List.setIfInBounds_toArray, List.set_cons_zero, List.set_cons_succ]
          refine wpAnyH_take (i := 32) (oi := ⟨some 116, _, _, _, _, _⟩) (v := undef) rfl (by kernel_rfl) (by kernel_rfl) (by kernel_rfl) (fun _ _ _ h => h) (Or.inr ⟨by rfl, rfl⟩) hH ?_
          simp only [Act.put, List.setIfInBounds_toArray, List.set_cons_zero, List.set_cons_succ]
          refine wpAnyH_take (i := 33) (oi := ⟨some 117, _, _, _, _, _⟩) (v := undef) rfl (by kernel_rfl) (by kernel_rfl) (by kernel_rfl) (fun _ _ _ h => h) (Or.inr ⟨by rfl, rfl⟩) hH ?_
          simp only [Act.put, List.setIfInBounds_toArray, List.set_cons_zero, List.set_cons_succ]
          refine wpAnyH_take (i := 34) (oi := ⟨some 118, _, _, _, _, _⟩) (v := undef) rfl (by kernel_rfl) (by kernel_rfl) (by kernel_rfl) (fun _ _ _ h => h) (Or.inr ⟨by rfl, rfl⟩) hH ?_
          simp only [Act.put, List.setIfInBounds_toArray, List.set_cons_zero, List.set_cons_succ]
          refine wpAnyH_take (i := 35) (oi := ⟨some 119, _, _, _, _, _⟩) (v := undef) rfl (by kernel_rfl) (by kernel_rfl) (by kernel_rfl) (fun _ _ _ h => h) (Or.inr ⟨by rfl, rfl⟩) hH ?_
          simp only [Act.put, List.setIfInBounds_toArray, List.set_cons_zero, List.set_cons_succ]
          refine wpAnyH_take (i := 36) (oi := ⟨some 120, _, _, _, _, _⟩) (v := undef) rfl (by kernel_rfl) (by kernel_rfl) (by kernel_rfl) (fun _ _ _ h => h) (Or.inr ⟨by rfl, rfl⟩) hH ?_
          simp only [Act.put, List.setIfInBounds_toArray, List.set_cons_zero, List.set_cons_succ]
          refine wpAnyH_take (i := 37) (oi := ⟨some 121, _, _, _, _, _⟩) (v := undef) rfl (by kernel_rfl) (by kernel_rfl) (by kernel_rfl) (fun _ _ _ h => h) (Or.inr ⟨by rfl, rfl⟩) hH ?_
          simp only [Act.put, List.setIfInBounds_toArray, List.set_cons_zero, List.set_cons_succ]
          refine wpAnyH_take (i := 38) (oi := ⟨some 122, _, _, _, _, _⟩) (v := undef) rfl (by kernel_rfl) (by kernel_rfl) (by kernel_rfl) (fun _ _ _ h => h) (Or.inr ⟨by rfl, rfl⟩) hH ?_
          simp only [Act.put, List.setIfInBounds_toArray, List.set_cons_zero, List.set_cons_succ]
          refine wpAnyH_take (i := 39) (oi := ⟨some 123, _, _, _, _, _⟩) (v := undef) rfl (by kernel_rfl) (by kernel_rfl) (by kernel_rfl) (fun _ _ _ h => h) (Or.inr ⟨by rfl, rfl⟩) hH ?_
          simp only [Act.put, List.setIfInBounds_toArray, List.set_cons_zero, List.set_cons_succ]
          refine wpAnyH_take (i := 40) (oi := ⟨some 124, _, _, _, _, _⟩) (v := undef) rfl (by kernel_rfl) (by kernel_rfl) (by kernel_rfl) (fun _ _ _ h => h) (Or.inr ⟨by rfl, rfl⟩) hH ?_
          simp only [Act.put, List.setIfInBounds_toArray, List.set_cons_zero, List.set_cons_succ]
          refine wpAnyH_take (i := 41) (oi := ⟨some 125, _, _, _, _, _⟩) (v := .bool false) rfl (by kernel_rfl) (by kernel_rfl) (by kernel_rfl) (fun _ _ _ h => h) (Or.inl ⟨by rfl, fun wq hq => ?_⟩) hH ?_
          · go_simp
          simp only [Act.put, List.setIfInBounds_toArray, List.set_cons_zero, List.set_cons_succ]
          refine wpAnyH_take (i := 42) (oi := ⟨some 126, _, _, _, _, _⟩) (v := .bool false) rfl (by kernel_rfl) (by kernel_rfl) (by kernel_rfl) (fun _ _ _ h => h) (Or.inl ⟨by rfl, fun wq hq => ?_⟩) hH ?_
          · go_simp
          simp only [Act.put, List.setIfInBounds_toArray, List.set_cons_zero, List.set_cons_succ]
          refine wpAnyH_take (i := 43) (oi := ⟨some 127, _, _, _, _, _⟩) (v := .bool false) rfl (by kernel_rfl) (by kernel_rfl) (by kernel_rfl) (fun _ _ _ h => h) (Or.inl ⟨by rfl, fun wq hq => ?_⟩) hH ?_
          · go_simp
          simp only [Act.put, List.setIfInBounds_toArray, List.set_cons_zero, List.set_cons_succ]
          refine wpAnyH_take (i := 44) (oi := ⟨some 128, _, _, _, _, _⟩) (v := .pointer (some ⟨fa.a, 0, none⟩)) rfl (by kernel_rfl) (by kernel_rfl) (by kernel_rfl) (fun _ _ _ h => h) (Or.inl ⟨by rfl, fun wq hq => ?_⟩) hH ?_
          · go_simp
          simp only [Act.put, List.setIfInBounds_toArray, List.set_cons_zero, List.set_cons_succ]
          refine wpAnyH_take (i := 46) (oi := ⟨some 130, _, _, _, _, _⟩) (v := .pointer (some ⟨fb.a, 0, none⟩)) rfl (by kernel_rfl) (by kernel_rfl) (by kernel_rfl) (fun _ _ _ h => h) (Or.inl ⟨by rfl, fun wq hq => ?_⟩) hH ?_
          · go_simp
          simp only [Act.put, List.setIfInBounds_toArray, List.set_cons_zero, List.set_cons_succ]
          refine wpAnyH_ready (rs := [45]) (by kernel_rfl) (by simp) (AllReadyH.cons (o := ⟨some 129, .call { callee := .value (.func 19), args := #[.tmp 128], argTypes := #[25] }, _, _, _, _⟩) rfl (fun K hK => ?_) AllReadyH.nil)
          rw [if_pos (by rfl)]
          refine call_step _ _ _ rfl #[.pointer (some ⟨fa.a, 0, none⟩)] (by simp only [List.map_toArray, List.map_cons, List.map_nil]; rfl) (.int .i64 (S2.left : Int)) (fun w' => TwAt w fa fb fc S2 S2 Sc2 w' ∧ w'.heap[L]? = some (.cells #[.int .i64 ok, .int .i64 oid, .int .i64 on, .int .i64 ovv] 28 (0, 0))) (by kernel_rfl) ((left_any hT.a).mono (fun e w'' ⟨he, hw⟩ => by subst hw; exact ⟨he, hT, hH⟩)) K ?_
          clear hT hH
          rintro w83 ⟨hT, hH⟩
          refine hK.out _ _ hH (fun hHn => ?_)
          clear hK K hHn w82
          simp only [Act.put, List.setIfInBounds_toArray, List.set_cons_zero, List.set_cons_succ]
          refine wpAnyH_ready (rs := [47]) (by kernel_rfl) (by simp) (AllReadyH.cons (o := ⟨some 131, .call { callee := .value (.func 19), args := #[.tmp 130], argTypes := #[25] }, _, _, _, _⟩) rfl (fun K hK => ?_) AllReadyH.nil)
          rw [if_pos (by rfl)]
          refine call_step _ _ _ rfl #[.pointer (some ⟨fb.a, 0, none⟩)] (by simp only [List.map_toArray, List.map_cons, List.map_nil]; rfl) (.int .i64 (S2.left : Int)) (fun w' => TwAt w fa fb fc S2 S2 Sc2 w' ∧ w'.heap[L]? = some (.cells #[.int .i64 ok, .int .i64 oid, .int .i64 on, .int .i64 ovv] 28 (0, 0))) (by kernel_rfl) ((left_any hT.b).mono (fun e w'' ⟨he, hw⟩ => by subst hw; exact ⟨he, hT, hH⟩)) K ?_
          clear hT hH
          rintro w84 ⟨hT, hH⟩
          refine hK.out _ _ hH (fun hHn => ?_)
          clear hK K hHn w83
          simp only [Act.put, List.setIfInBounds_toArray, List.set_cons_zero, List.set_cons_succ]
          refine wpAnyH_take (i := 48) (oi := ⟨some 132, _, _, _, _, _⟩) (v := .bool false) rfl (by kernel_rfl) (by kernel_rfl) (by kernel_rfl) (fun _ _ _ h => h) (Or.inl ⟨by rfl, fun wq hq => ?_⟩) hH ?_
          · go_simp
          simp only [Act.put, List.setIfInBounds_toArray, List.set_cons_zero, List.set_cons_succ]
          refine wpAnyH_take (i := 49) (oi := ⟨some 133, _, _, _, _, _⟩) (v := .bool false) rfl (by kernel_rfl) (by kernel_rfl) (by kernel_rfl) (fun _ _ _ h => h) (Or.inl ⟨by rfl, fun wq hq => ?_⟩) hH ?_
          · go_simp
          simp only [Act.put, List.setIfInBounds_toArray, List.set_cons_zero, List.set_cons_succ]
          refine wpAnyH_take (i := 50) (oi := ⟨some 134, _, _, _, _, _⟩) (v := .bool false) rfl (by kernel_rfl) (by kernel_rfl) (by kernel_rfl) (fun _ _ _ h => h) (Or.inl ⟨by rfl, fun wq hq => ?_⟩) hH ?_
          · go_simp
          simp only [Act.put, List.setIfInBounds_toArray, List.set_cons_zero, List.set_cons_succ]
          refine wpAnyH_take (i := 51) (oi := ⟨some 135, _, _, _, _, _⟩) (v := .pointer (some ⟨fa.a, 0, none⟩)) rfl (by kernel_rfl) (by kernel_rfl) (by kernel_rfl) (fun _ _ _ h => h) (Or.inl ⟨by rfl, fun wq hq => ?_⟩) hH ?_
          · go_simp
          simp only [Act.put, List.setIfInBounds_toArray, List.set_cons_zero, List.set_cons_succ]
          refine wpAnyH_take (i := 52) (oi := ⟨some 136, _, _, _, _, _⟩) (v := .int .i64 x) rfl (by kernel_rfl) (by kernel_rfl) (by kernel_rfl) (fun _ _ _ h => h) (Or.inl ⟨by rfl, fun wq hq => ?_⟩) hH ?_
          · go_simp
          simp only [Act.put, List.setIfInBounds_toArray, List.set_cons_zero, List.set_cons_succ]
          refine wpAnyH_take (i := 54) (oi := ⟨some 138, _, _, _, _, _⟩) (v := .pointer (some ⟨fb.a, 0, none⟩)) rfl (by kernel_rfl) (by kernel_rfl) (by kernel_rfl) (fun _ _ _ h => h) (Or.inl ⟨by rfl, fun wq hq => ?_⟩) hH ?_
          · go_simp
          simp only [Act.put, List.setIfInBounds_toArray, List.set_cons_zero, List.set_cons_succ]
          refine wpAnyH_take (i := 55) (oi := ⟨some 139, _, _, _, _, _⟩) (v := .int .i64 x) rfl (by kernel_rfl) (by kernel_rfl) (by kernel_rfl) (fun _ _ _ h => h) (Or.inl ⟨by rfl, fun wq hq => ?_⟩) hH ?_
          · go_simp
          simp only [Act.put, List.setIfInBounds_toArray, List.set_cons_zero, List.set_cons_succ]
          refine wpAnyH_ready (rs := [53]) (by kernel_rfl) (by simp) (AllReadyH.cons (o := ⟨some 137, .call { callee := .value (.func 20), args := #[.tmp 135, .tmp 136], argTypes := #[25, 3] }, _, _, _, _⟩) rfl (fun K hK => ?_) AllReadyH.nil)
          rw [if_pos (by rfl)]
          refine call_step _ _ _ rfl #[.pointer (some ⟨fa.a, 0, none⟩), .int .i64 x] (by simp only [List.map_toArray, List.map_cons, List.map_nil]; rfl) (.int .i64 (baseP S2 x)) (fun w' => TwAt w fa fb fc S2 S2 Sc2 w' ∧ w'.heap[L]? = some (.cells #[.int .i64 ok, .int .i64 oid, .int .i64 on, .int .i64 ovv] 28 (0, 0))) (by kernel_rfl) ((base_any hT.a x).mono (fun e w'' ⟨he, hb⟩ => ⟨he, hT.keep hb, blk_below hH hb⟩)) K ?_
          clear hT hH
          rintro w85 ⟨hT, hH⟩
          refine hK.out _ _ hH (fun hHn => ?_)
          clear hK K hHn w84
          simp only [Act.put, List.setIfInBounds_toArray, List.set_cons_zero, List.set_cons_succ]
          refine wpAnyH_ready (rs := [56]) (by kernel_rfl) (by simp) (AllReadyH.cons (o := ⟨some 140, .call { callee := .value (.func 20), args := #[.tmp 138, .tmp 139], argTypes := #[25, 3] }, _, _, _, _⟩) rfl (fun K hK => ?_) AllReadyH.nil)
          rw [if_pos (by rfl)]
          refine call_step _ _ _ rfl #[.pointer (some ⟨fb.a, 0, none⟩), .int .i64 x] (by simp only [List.map_toArray, List.map_cons, List.map_nil]; rfl) (.int .i64 (baseP S2 x)) (fun w' => TwAt w fa fb fc S2 S2 Sc2 w' ∧ w'.heap[L]? = some (.cells #[.int .i64 ok, .int .i64 oid, .int .i64 on, .int .i64 ovv] 28 (0, 0))) (by kernel_rfl) ((base_any hT.b x).mono (fun e w'' ⟨he, hb⟩ => ⟨he, hT.keep hb, blk_below hH hb⟩)) K ?_
          clear hT hH
          rintro w86 ⟨hT, hH⟩
          refine hK.out _ _ hH (fun hHn => ?_)
          clear hK K hHn w85
          simp only [Act.put, List.setIfInBounds_toArray, List.set_cons_zero, List.set_cons_succ]
          refine wpAnyH_take (i := 57) (oi := ⟨some 141, _, _, _, _, _⟩) (v := .bool false) rfl (by kernel_rfl) (by kernel_rfl) (by kernel_rfl) (fun _ _ _ h => h) (Or.inl ⟨by rfl, fun wq hq => ?_⟩) hH ?_
          · go_simp
          simp only [Act.put, List.setIfInBounds_toArray, List.set_cons_zero, List.set_cons_succ]
          refine wpAnyH_take (i := 58) (oi := ⟨some 142, _, _, _, _, _⟩) (v := .bool false) rfl (by kernel_rfl) (by kernel_rfl) (by kernel_rfl) (fun _ _ _ h => h) (Or.inl ⟨by rfl, fun wq hq => ?_⟩) hH ?_
          · go_simp
          simp only [Act.put, List.setIfInBounds_toArray, List.set_cons_zero, List.set_cons_succ]
          refine wpAnyH_done (by kernel_rfl) ?_ _
          refine NoPanic.normal ?_
          have TE := Lib.hid hT
          clear hT hH
          go_wp2
          go_roundw
          case rel => exact ⟨k + 1, S2, _, by omega, by go_num, by omega, by omega, TE.out⟩
          case measure => simp [intOf]; omega
      · have d4 : decide ((k : Int) < (l2.length : Int)) = false := by simp; omega
        by_cases hk2' : ok = 2
        · subst hk2'
          go_wp2_with fail
          refine (alloc_any T2.out.a on (by omega)).mono ?_
          rintro e w5 ⟨rfl, hA, hM⟩
          have T3 := Lib.hid (T2.out.stepA F.out hA hM)
          have HL3 := Lib.hid ((hM.block L (blk_lt HL.out) OA.out.1 OA.out.2.1 OA.out.2.2.1 OA.out.2.2.2).trans HL.out)
          have lc2' : w5.cell? ⟨L, 2, none⟩ = some (.int .i64 on) := cell_of_row _ _ 2 _ _ _ HL3.out
          clear hA hM T2 HL lc2
          go_wp2_with fail
          refine (alloc_any T3.out.b on (by omega)).mono ?_
          rintro e w6 ⟨rfl, hA, hM⟩
          have T4 := Lib.hid (T3.out.stepB F.out hA hM)
          have HL4 := Lib.hid ((hM.block L (blk_lt HL3.out) OB.out.1 OB.out.2.1 OB.out.2.2.1 OB.out.2.2.2).trans HL3.out)
          have hlast := allocP_last S on
          clear hA hM T3 HL3 lc2'
          generalize (allocP S on).2.2 = S1 at *
          generalize ((allocP S on).1 : Int) = x at *
          generalize ((allocP S on).2.1 : Int) = er at *
          go_wp2
          refine wp_region_noPanic ?_
          refine wp_region_held_drew (S := (fun w' => w'.heap[L]? = some (.cells #[.int .i64 2, .int .i64 oid, .int .i64 on, .int .i64 ovv] 28 (0, 0)))) (by kernel_rfl) (HL4.out) (fun hH => ?_)
          have hT : TwAt w fa fb fc S1 S1 Sc w6.drew := T4.out.keep (below_drewN (Below.refl _ _) 1)
          clear T4 HL4
          generalize w6.drew = w7 at *
          refine wpAnyH_take (i := 0) (oi := ⟨some 84, _, _, _, _, _⟩) (v := .int .i64 x) rfl (by kernel_rfl) (by kernel_rfl) (by kernel_rfl) (fun _ _ _ h => h) (Or.inl ⟨by rfl, fun wq hq => ?_⟩) hH ?_
          · go_simp
          simp only [Act.put, List.setIfInBounds_toArray, List.set_cons_zero, List.set_cons_succ]
          refine wpAnyH_take (i := 1) (oi := ⟨some 85, _, _, _, _, _⟩) (v := .int .i64 x) rfl (by kernel_rfl) (by kernel_rfl) (by kernel_rfl) (fun _ _ _ h => h) (Or.inl ⟨by rfl, fun wq hq => ?_⟩) hH ?_
          · go_simp
          simp only [Act.put, List.setIfInBounds_toArray, List.set_cons_zero, List.set_cons_succ]
          refine wpAnyH_take (i := 2) (oi := ⟨some 86, _, _, _, _, _⟩) (v := .bool false) rfl (by kernel_rfl) (by kernel_rfl) (by kernel_rfl) (fun _ _ _ h => h) (Or.inl ⟨by rfl, fun wq hq => ?_⟩) hH ?_
          · go_simp
          simp only [Act.put, List.setIfInBounds_toArray, List.set_cons_zero, List.set_cons_succ]
          refine wpAnyH_take (i := 3) (oi := ⟨some 87, _, _, _, _, _⟩) (v := .bool false) rfl (by kernel_rfl) (by kernel_rfl) (by kernel_rfl) (fun _ _ _ h => h) (Or.inl ⟨by rfl, fun wq hq => ?_⟩) hH ?_
          · go_simp
          simp only [Act.put, List.setIfInBounds_toArray, List.set_cons_zero, List.set_cons_succ]
          refine wpAnyH_take (i := 4) (oi := ⟨some 88, _, _, _, _, _⟩) (v := .int .i64 er) rfl (by kernel_rfl) (by kernel_rfl) (by kernel_rfl) (fun _ _ _ h => h) (Or.inl ⟨by rfl, fun wq hq => ?_⟩) hH ?_
          · go_simp
          simp only [Act.put, List.setIfInBounds_toArray, List.set_cons_zero, List.set_cons_succ]
          refine wpAnyH_take (i := 5) (oi := ⟨some 89, _, _, _, _, _⟩) (v := .int .i64 er) rfl (by kernel_rfl) (by kernel_rfl) (by kernel_rfl) (fun _ _ _ h => h) (Or.inl ⟨by rfl, fun wq hq => ?_⟩) hH ?_
          · go_simp
          simp only [Act.put, List.setIfInBounds_toArray, List.set_cons_zero, List.set_cons_succ]
          refine wpAnyH_take (i := 6) (oi := ⟨some 90, _, _, _, _, _⟩) (v := .bool false) rfl (by kernel_rfl) (by kernel_rfl) (by kernel_rfl) (fun _ _ _ h => h) (Or.inl ⟨by rfl, fun wq hq => ?_⟩) hH ?_
          · go_simp
          simp only [Act.put, List.setIfInBounds_toArray, List.set_cons_zero, List.set_cons_succ]
          refine wpAnyH_take (i := 7) (oi := ⟨some 91, _, _, _, _, _⟩) (v := .bool false) rfl (by kernel_rfl) (by kernel_rfl) (by kernel_rfl) (fun _ _ _ h => h) (Or.inl ⟨by rfl, fun wq hq => ?_⟩) hH ?_
          · go_simp
          simp only [Act.put, List.setIfInBounds_toArray, List.set_cons_zero, List.set_cons_succ]
          refine wpAnyH_take (i := 8) (oi := ⟨some 92, _, _, _, _, _⟩) (v := .bool false) rfl (by kernel_rfl) (by kernel_rfl) (by kernel_rfl) (fun _ _ _ h => h) (Or.inl ⟨by rfl, fun wq hq => ?_⟩) hH ?_
          · go_simp
          simp only [Act.put, List.setIfInBounds_toArray, List.set_cons_zero, List.set_cons_succ]
          refine wpAnyH_take (i := 9) (oi := ⟨some 93, _, _, _, _, _⟩) (v := .pointer (some ⟨fa.a, 0, none⟩)) rfl (by kernel_rfl) (by kernel_rfl) (by kernel_rfl) (fun _ _ _ h => h) (Or.inl ⟨by rfl, fun wq hq => ?_⟩) hH ?_
          · go_simp
          simp only [Act.put, List.setIfInBounds_toArray, List.set_cons_zero, List.set_cons_succ]
          refine wpAnyH_take (i := 10) (oi := ⟨some 94, _, _, _, _, _⟩) (v := .pointer (some ⟨L, 1, none⟩)) rfl (by kernel_rfl) (by kernel_rfl) (by kernel_rfl) (fun _ _ _ h => h) (Or.inl ⟨by rfl, fun wq hq => ?_⟩) hH ?_
          · go_simp
          simp only [Act.put, List.setIfInBounds_toArray, List.set_cons_zero, List.set_cons_succ]
          refine wpAnyH_take (i := 11) (oi := ⟨some 95, _, _, _, _, _⟩) (v := .int .i64 oid) rfl (by kernel_rfl) (by kernel_rfl) (by kernel_rfl) (fun _ _ _ h => h) (Or.inl ⟨by rfl, fun wq hq => ?_⟩) hH ?_
          · have q := cell_of_row _ _ 1 _ _ _ hq; go_simp
          simp only [Act.put, List.setIfInBounds_toArray, List.set_cons_zero, List.set_cons_succ]
          refine wpAnyH_take (i := 12) (oi := ⟨some 96, _, _, _, _, _⟩) (v := .pointer (some ⟨L, 3, none⟩)) rfl (by kernel_rfl) (by kernel_rfl) (by kernel_rfl) (fun _ _ _ h => h) (Or.inl ⟨by rfl, fun wq hq => ?_⟩) hH ?_
          · go_simp
          simp only [Act.put, List.setIfInBounds_toArray, List.set_cons_zero, List.set_cons_succ]
          refine wpAnyH_take (i := 13) (oi := ⟨some 97, _, _, _, _, _⟩) (v := .int .i64 ovv) rfl (by kernel_rfl) (by kernel_rfl) (by kernel_rfl) (fun _ _ _ h => h) (Or.inl ⟨by rfl, fun wq hq => ?_⟩) hH ?_
          · have q := cell_of_row _ _ 3 _ _ _ hq; go_simp
          simp only [Act.put, List.setIfInBounds_toArray, List.set_cons_zero, List.set_cons_succ]
          refine wpAnyH_take (i := 14) (oi := ⟨some 98, _, _, _, _, _⟩) (v := .pointer (some ⟨L, 2, none⟩)) rfl (by kernel_rfl) (by kernel_rfl) (by kernel_rfl) (fun _ _ _ h => h) (Or.inl ⟨by rfl, fun wq hq => ?_⟩) hH ?_
          · go_simp
          simp only [Act.put, List.setIfInBounds_toArray, List.set_cons_zero, List.set_cons_succ]
          refine wpAnyH_take (i := 15) (oi := ⟨some 99, _, _, _, _, _⟩) (v := .int .i64 on) rfl (by kernel_rfl) (by kernel_rfl) (by kernel_rfl) (fun _ _ _ h => h) (Or.inl ⟨by rfl, fun wq hq => ?_⟩) hH ?_
          · have q := cell_of_row _ _ 2 _ _ _ hq; go_simp
          simp only [Act.put, List.setIfInBounds_toArray, List.set_cons_zero, List.set_cons_succ]
          refine wpAnyH_take (i := 17) (oi := ⟨some 101, _, _, _, _, _⟩) (v := .pointer (some ⟨fb.a, 0, none⟩)) rfl (by kernel_rfl) (by kernel_rfl) (by kernel_rfl) (fun _ _ _ h => h) (Or.inl ⟨by rfl, fun wq hq => ?_⟩) hH ?_
          · go_simp
          simp only [Act.put, List.setIfInBounds_toArray, List.set_cons_zero, List.set_cons_succ]
          refine wpAnyH_take (i := 18) (oi := ⟨some 102, _, _, _, _, _⟩) (v := .pointer (some ⟨L, 1, none⟩)) rfl (by kernel_rfl) (by kernel_rfl) (by kernel_rfl) (fun _ _ _ h => h) (Or.inl ⟨by rfl, fun wq hq => ?_⟩) hH ?_
          · go_simp
          simp only [Act.put, List.setIfInBounds_toArray, List.set_cons_zero, List.set_cons_succ]
          refine wpAnyH_take (i := 19) (oi := ⟨some 103, _, _, _, _, _⟩) (v := .int .i64 oid) rfl (by kernel_rfl) (by kernel_rfl) (by kernel_rfl) (fun _ _ _ h => h) (Or.inl ⟨by rfl, fun wq hq => ?_⟩) hH ?_
          · have q := cell_of_row _ _ 1 _ _ _ hq; go_simp
          simp only [Act.put, List.setIfInBounds_toArray, List.set_cons_zero, List.set_cons_succ]
          refine wpAnyH_take (i := 20) (oi := ⟨some 104, _, _, _, _, _⟩) (v := .pointer (some ⟨L, 3, none⟩)) rfl (by kernel_rfl) (by kernel_rfl) (by kernel_rfl) (fun _ _ _ h => h) (Or.inl ⟨by rfl, fun wq hq => ?_⟩) hH ?_
          · go_simp
          simp only [Act.put, List.setIfInBounds_toArray, List.set_cons_zero, List.set_cons_succ]
          refine wpAnyH_take (i := 21) (oi := ⟨some 105, _, _, _, _, _⟩) (v := .int .i64 ovv) rfl (by kernel_rfl) (by kernel_rfl) (by kernel_rfl) (fun _ _ _ h => h) (Or.inl ⟨by rfl, fun wq hq => ?_⟩) hH ?_
          · have q := cell_of_row _ _ 3 _ _ _ hq; go_simp
          simp only [Act.put, List.setIfInBounds_toArray, List.set_cons_zero, List.set_cons_succ]
          refine wpAnyH_take (i := 22) (oi := ⟨some 106, _, _, _, _, _⟩) (v := .pointer (some ⟨L, 2, none⟩)) rfl (by kernel_rfl) (by kernel_rfl) (by kernel_rfl) (fun _ _ _ h => h) (Or.inl ⟨by rfl, fun wq hq => ?_⟩) hH ?_
          · go_simp
          simp only [Act.put, List.setIfInBounds_toArray, List.set_cons_zero, List.set_cons_succ]
          refine wpAnyH_take (i := 23) (oi := ⟨some 107, _, _, _, _, _⟩) (v := .int .i64 on) rfl (by kernel_rfl) (by kernel_rfl) (by kernel_rfl) (fun _ _ _ h => h) (Or.inl ⟨by rfl, fun wq hq => ?_⟩) hH ?_
          · have q := cell_of_row _ _ 2 _ _ _ hq; go_simp
          simp only [Act.put, List.setIfInBounds_toArray, List.set_cons_zero, List.set_cons_succ]
          refine wpAnyH_ready (rs := [16]) (by kernel_rfl) (by simp) (AllReadyH.cons (o := ⟨some 100, .call { callee := .value (.func 17), args := #[.tmp 93, .tmp 95, .tmp 97, .tmp 99], argTypes := #[25, 3, 3, 3] }, _, _, _, _⟩) rfl (fun K hK => ?_) AllReadyH.nil)
          rw [if_pos (by rfl)]
          refine call_step _ _ _ rfl #[.pointer (some ⟨fa.a, 0, none⟩), .int .i64 oid, .int .i64 ovv, .int .i64 on] (by simp only [List.map_toArray, List.map_cons, List.map_nil]; rfl) (.int .i64 ((setP S1 oid ovv on).1 : Int)) (fun w' => TwAt w fa fb fc (setP S1 oid ovv on).2 S1 Sc w' ∧ w'.heap[L]? = some (.cells #[.int .i64 2, .int .i64 oid, .int .i64 on, .int .i64 ovv] 28 (0, 0))) (by kernel_rfl) ((set_any hT.a oid ovv on).mono (fun e w'' ⟨he, hA, hM⟩ => ⟨he, hT.stepA F.out hA hM, (hM.block L (blk_lt hH) OA.out.1 OA.out.2.1 OA.out.2.2.1 OA.out.2.2.2).trans hH⟩)) K ?_
          clear hT hH
          rintro w81 ⟨hT, hH⟩
          refine hK.out _ _ hH (fun hHn => ?_)
          clear hK K hHn w7
          simp only [Act.put, List.setIfInBounds_toArray, List.set_cons_zero, List.set_cons_succ]
          refine wpAnyH_ready (rs := [24]) (by kernel_rfl) (by simp) (AllReadyH.cons (o := ⟨some 108, .call { callee := .value (.func 17), args := #[.tmp 101, .tmp 103, .tmp 105, .tmp 107], argTypes := #[25, 3, 3, 3] }, _, _, _, _⟩) rfl (fun K hK => ?_) AllReadyH.nil)
          rw [if_pos (by rfl)]
          refine call_step _ _ _ rfl #[.pointer (some ⟨fb.a, 0, none⟩), .int .i64 oid, .int .i64 ovv, .int .i64 on] (by simp only [List.map_toArray, List.map_cons, List.map_nil]; rfl) (.int .i64 ((setP S1 oid ovv on).1 : Int)) (fun w' => TwAt w fa fb fc (setP S1 oid ovv on).2 (setP S1 oid ovv on).2 Sc w' ∧ w'.heap[L]? = some (.cells #[.int .i64 2, .int .i64 oid, .int .i64 on, .int .i64 ovv] 28 (0, 0))) (by kernel_rfl) ((set_any hT.b oid ovv on).mono (fun e w'' ⟨he, hA, hM⟩ => ⟨he, hT.stepB F.out hA hM, (hM.block L (blk_lt hH) OB.out.1 OB.out.2.1 OB.out.2.2.1 OB.out.2.2.2).trans hH⟩)) K ?_
          clear hT hH
          rintro w82 ⟨hT, hH⟩
          refine hK.out _ _ hH (fun hHn => ?_)
          clear hK K hHn w81
          simp only [Act.put, List.setIfInBounds_toArray, List.set_cons_zero, List.set_cons_succ]
          have hlast2 := setP_last S1 oid ovv on
          generalize (setP S1 oid ovv on).2 = S2 at *
          generalize ((setP S1 oid ovv on).1 : Int) = sv at *
          refine wpAnyH_take (i := 25) (oi := ⟨some 109, _, _, _, _, _⟩) (v := .bool false) rfl (by kernel_rfl) (by kernel_rfl) (by kernel_rfl) (fun _ _ _ h => h) (Or.inl ⟨by rfl, fun wq hq => ?_⟩) hH ?_
          · go_simp
          simp only [Act.put, List.setIfInBounds_toArray, List.set_cons_zero, List.set_cons_succ]
          refine wpAnyH_take (i := 26) (oi := ⟨some 110, _, _, _, _, _⟩) (v := .bool false) rfl (by kernel_rfl) (by kernel_rfl) (by kernel_rfl) (fun _ _ _ h => h) (Or.inl ⟨by rfl, fun wq hq => ?_⟩) hH ?_
          · go_simp
          simp only [Act.put, List.setIfInBounds_toArray, List.set_cons_zero, List.set_cons_succ]
          refine wpAnyH_take (i := 27) (oi := ⟨some 111, _, _, _, _, _⟩) (v := .bool false) rfl (by kernel_rfl) (by kernel_rfl) (by kernel_rfl) (fun _ _ _ h => h) (Or.inl ⟨by rfl, fun wq hq => ?_⟩) hH ?_
          · go_simp
          simp only [Act.put, List.setIfInBounds_toArray, List.set_cons_zero, List.set_cons_succ]
          refine wpAnyH_take (i := 28) (oi := ⟨some 112, _, _, _, _, _⟩) (v := .pointer (some ⟨L, 0, none⟩)) rfl (by kernel_rfl) (by kernel_rfl) (by kernel_rfl) (fun _ _ _ h => h) (Or.inl ⟨by rfl, fun wq hq => ?_⟩) hH ?_
          · go_simp
          simp only [Act.put, List.setIfInBounds_toArray, List.set_cons_zero, List.set_cons_succ]
          refine wpAnyH_take (i := 29) (oi := ⟨some 113, _, _, _, _, _⟩) (v := .int .i64 2) rfl (by kernel_rfl) (by kernel_rfl) (by kernel_rfl) (fun _ _ _ h => h) (Or.inl ⟨by rfl, fun wq hq => ?_⟩) hH ?_
          · have q := cell_of_row _ _ 0 _ _ _ hq; go_simp
          simp only [Act.put, List.setIfInBounds_toArray, List.set_cons_zero, List.set_cons_succ]
          refine wpAnyH_take (i := 30) (oi := ⟨some 114, _, _, _, _, _⟩) (v := .bool true) rfl (by kernel_rfl) (by kernel_rfl) (by kernel_rfl) (fun _ _ _ h => h) (Or.inl ⟨by rfl, fun wq hq => ?_⟩) hH ?_
          · go_simp
          simp only [Act.put, List.setIfInBounds_toArray, List.set_cons_zero, List.set_cons_succ]
          refine wpAnyH_take (i := 31) (oi := ⟨some 115, _, _, _, _, _⟩) (v := .bool true) rfl (by kernel_rfl) (by kernel_rfl) (by kernel_rfl) (fun _ _ _ h => h) (Or.inl ⟨by rfl, fun wq hq => ?_⟩) hH ?_
          · go_simp
          simp only [Act.put, List.setIfInBounds_toArray, List.set_cons_zero, List.set_cons_succ]
          refine wpAnyH_take (i := 32) (oi := ⟨some 116, _, _, _, _, _⟩) (v := .pointer (some ⟨fa.a, 0, none⟩)) rfl (by kernel_rfl) (by kernel_rfl) (by kernel_rfl) (fun _ _ _ h => h) (Or.inl ⟨by rfl, fun wq hq => ?_⟩) hH ?_
          · go_simp
          simp only [Act.put, List.setIfInBounds_toArray, List.set_cons_zero, List.set_cons_succ]
          refine wpAnyH_take (i := 33) (oi := ⟨some 117, _, _, _, _, _⟩) (v := .pointer (some ⟨L, 1, none⟩)) rfl (by kernel_rfl) (by kernel_rfl) (by kernel_rfl) (fun _ _ _ h => h) (Or.inl ⟨by rfl, fun wq hq => ?_⟩) hH ?_
          · go_simp
          simp only [Act.put, List.setIfInBounds_toArray, List.set_cons_zero, List.set_cons_succ]
          refine wpAnyH_take (i := 34) (oi := ⟨some 118, _, _, _, _, _⟩) (v := .int .i64 oid) rfl (by kernel_rfl) (by kernel_rfl) (by kernel_rfl) (fun _ _ _ h => h) (Or.inl ⟨by rfl, fun wq hq => ?_⟩) hH ?_
          · have q := cell_of_row _ _ 1 _ _ _ hq; go_simp
          simp only [Act.put, List.setIfInBounds_toArray, List.set_cons_zero, List.set_cons_succ]
          refine wpAnyH_take (i := 36) (oi := ⟨some 120, _, _, _, _, _⟩) (v := .pointer (some ⟨fb.a, 0, none⟩)) rfl (by kernel_rfl) (by kernel_rfl) (by kernel_rfl) (fun _ _ _ h => h) (Or.inl ⟨by rfl, fun wq hq => ?_⟩) hH ?_
          · go_simp
          simp only [Act.put, List.setIfInBounds_toArray, List.set_cons_zero, List.set_cons_succ]
          refine wpAnyH_take (i := 37) (oi := ⟨some 121, _, _, _, _, _⟩) (v := .pointer (some ⟨L, 1, none⟩)) rfl (by kernel_rfl) (by kernel_rfl) (by kernel_rfl) (fun _ _ _ h => h) (Or.inl ⟨by rfl, fun wq hq => ?_⟩) hH ?_
          · go_simp
          simp only [Act.put, List.setIfInBounds_toArray, List.set_cons_zero, List.set_cons_succ]
          refine wpAnyH_take (i := 38) (oi := ⟨some 122, _, _, _, _, _⟩) (v := .int .i64 oid) rfl (by kernel_rfl) (by kernel_rfl) (by kernel_rfl) (fun _ _ _ h => h) (Or.inl ⟨by rfl, fun wq hq => ?_⟩) hH ?_
          · have q := cell_of_row _ _ 1 _ _ _ hq; go_simp
          simp only [Act.put, List.setIfInBounds_toArray, List.set_cons_zero, List.set_cons_succ]
          refine wpAnyH_ready (rs := [35]) (by kernel_rfl) (by simp) (AllReadyH.cons (o := ⟨some 119, .call { callee := .value (.func 18), args := #[.tmp 116, .tmp 118], argTypes := #[25, 3] }, _, _, _, _⟩) rfl (fun K hK => ?_) AllReadyH.nil)
          rw [if_pos (by rfl)]
          refine call_step _ _ _ rfl #[.pointer (some ⟨fa.a, 0, none⟩), .int .i64 oid] (by simp only [List.map_toArray, List.map_cons, List.map_nil]; rfl) (.int .i64 ((freeP S2 oid).1 : Int)) (fun w' => TwAt w fa fb fc (freeP S2 oid).2 S2 Sc w' ∧ w'.heap[L]? = some (.cells #[.int .i64 2, .int .i64 oid, .int .i64 on, .int .i64 ovv] 28 (0, 0))) (by kernel_rfl) ((free_any hT.a oid).mono (fun e w'' ⟨he, hA, hM⟩ => ⟨he, hT.stepA F.out hA hM, (hM.block L (blk_lt hH) OA.out.1 OA.out.2.1 OA.out.2.2.1 OA.out.2.2.2).trans hH⟩)) K ?_
          clear hT hH
          rintro w83 ⟨hT, hH⟩
          refine hK.out _ _ hH (fun hHn => ?_)
          clear hK K hHn w82
          simp only [Act.put, List.setIfInBounds_toArray, List.set_cons_zero, List.set_cons_succ]
          refine wpAnyH_ready (rs := [39]) (by kernel_rfl) (by simp) (AllReadyH.cons (o := ⟨some 123, .call { callee := .value (.func 18), args := #[.tmp 120, .tmp 122], argTypes := #[25, 3] }, _, _, _, _⟩) rfl (fun K hK => ?_) AllReadyH.nil)
          rw [if_pos (by rfl)]
          refine call_step _ _ _ rfl #[.pointer (some ⟨fb.a, 0, none⟩), .int .i64 oid] (by simp only [List.map_toArray, List.map_cons, List.map_nil]; rfl) (.int .i64 ((freeP S2 oid).1 : Int)) (fun w' => TwAt w fa fb fc (freeP S2 oid).2 (freeP S2 oid).2 Sc w' ∧ w'.heap[L]? = some (.cells #[.int .i64 2, .int .i64 oid, .int .i64 on, .int .i64 ovv] 28 (0, 0))) (by kernel_rfl) ((free_any hT.b oid).mono (fun e w'' ⟨he, hA, hM⟩ => ⟨he, hT.stepB F.out hA hM, (hM.block L (blk_lt hH) OB.out.1 OB.out.2.1 OB.out.2.2.1 OB.out.2.2.2).trans hH⟩)) K ?_
          clear hT hH
          rintro w84 ⟨hT, hH⟩
          refine hK.out _ _ hH (fun hHn => ?_)
          clear hK K hHn w83
          simp only [Act.put, List.setIfInBounds_toArray, List.set_cons_zero, List.set_cons_succ]
          have hlast3 := freeP_last S2 oid
          generalize (freeP S2 oid).2 = S3 at *
          generalize ((freeP S2 oid).1 : Int) = fv at *
          refine wpAnyH_take (i := 40) (oi := ⟨some 124, _, _, _, _, _⟩) (v := .bool false) rfl (by kernel_rfl) (by kernel_rfl) (by kernel_rfl) (fun _ _ _ h => h) (Or.inl ⟨by rfl, fun wq hq => ?_⟩) hH ?_
          · go_simp
          simp only [Act.put, List.setIfInBounds_toArray, List.set_cons_zero, List.set_cons_succ]
          refine wpAnyH_take (i := 41) (oi := ⟨some 125, _, _, _, _, _⟩) (v := .bool false) rfl (by kernel_rfl) (by kernel_rfl) (by kernel_rfl) (fun _ _ _ h => h) (Or.inl ⟨by rfl, fun wq hq => ?_⟩) hH ?_
          · go_simp
          simp only [Act.put, List.setIfInBounds_toArray, List.set_cons_zero, List.set_cons_succ]
          refine wpAnyH_take (i := 42) (oi := ⟨some 126, _, _, _, _, _⟩) (v := .bool false) rfl (by kernel_rfl) (by kernel_rfl) (by kernel_rfl) (fun _ _ _ h => h) (Or.inl ⟨by rfl, fun wq hq => ?_⟩) hH ?_
          · go_simp
          simp only [Act.put, List.setIfInBounds_toArray, List.set_cons_zero, List.set_cons_succ]
          refine wpAnyH_take (i := 43) (oi := ⟨some 127, _, _, _, _, _⟩) (v := .bool false) rfl (by kernel_rfl) (by kernel_rfl) (by kernel_rfl) (fun _ _ _ h => h) (Or.inl ⟨by rfl, fun wq hq => ?_⟩) hH ?_
          · go_simp
          simp only [Act.put, List.setIfInBounds_toArray, List.set_cons_zero, List.set_cons_succ]
          refine wpAnyH_take (i := 44) (oi := ⟨some 128, _, _, _, _, _⟩) (v := .pointer (some ⟨fa.a, 0, none⟩)) rfl (by kernel_rfl) (by kernel_rfl) (by kernel_rfl) (fun _ _ _ h => h) (Or.inl ⟨by rfl, fun wq hq => ?_⟩) hH ?_
          · go_simp
          simp only [Act.put, List.setIfInBounds_toArray, List.set_cons_zero, List.set_cons_succ]
          refine wpAnyH_take (i := 46) (oi := ⟨some 130, _, _, _, _, _⟩) (v := .pointer (some ⟨fb.a, 0, none⟩)) rfl (by kernel_rfl) (by kernel_rfl) (by kernel_rfl) (fun _ _ _ h => h) (Or.inl ⟨by rfl, fun wq hq => ?_⟩) hH ?_
          · go_simp
          simp only [Act.put, List.setIfInBounds_toArray, List.set_cons_zero, List.set_cons_succ]
          refine wpAnyH_ready (rs := [45]) (by kernel_rfl) (by simp) (AllReadyH.cons (o := ⟨some 129, .call { callee := .value (.func 19), args := #[.tmp 128], argTypes := #[25] }, _, _, _, _⟩) rfl (fun K hK => ?_) AllReadyH.nil)
          rw [if_pos (by rfl)]
          refine call_step _ _ _ rfl #[.pointer (some ⟨fa.a, 0, none⟩)] (by simp only [List.map_toArray, List.map_cons, List.map_nil]; rfl) (.int .i64 (S3.left : Int)) (fun w' => TwAt w fa fb fc S3 S3 Sc w' ∧ w'.heap[L]? = some (.cells #[.int .i64 2, .int .i64 oid, .int .i64 on, .int .i64 ovv] 28 (0, 0))) (by kernel_rfl) ((left_any hT.a).mono (fun e w'' ⟨he, hw⟩ => by subst hw; exact ⟨he, hT, hH⟩)) K ?_
          clear hT hH
          rintro w85 ⟨hT, hH⟩
          refine hK.out _ _ hH (fun hHn => ?_)
          clear hK K hHn w84
          simp only [Act.put, List.setIfInBounds_toArray, List.set_cons_zero, List.set_cons_succ]
          refine wpAnyH_ready (rs := [47]) (by kernel_rfl) (by simp) (AllReadyH.cons (o := ⟨some 131, .call { callee := .value (.func 19), args := #[.tmp 130], argTypes := #[25] }, _, _, _, _⟩) rfl (fun K hK => ?_) AllReadyH.nil)
          rw [if_pos (by rfl)]
          refine call_step _ _ _ rfl #[.pointer (some ⟨fb.a, 0, none⟩)] (by simp only [List.map_toArray, List.map_cons, List.map_nil]; rfl) (.int .i64 (S3.left : Int)) (fun w' => TwAt w fa fb fc S3 S3 Sc w' ∧ w'.heap[L]? = some (.cells #[.int .i64 2, .int .i64 oid, .int .i64 on, .int .i64 ovv] 28 (0, 0))) (by kernel_rfl) ((left_any hT.b).mono (fun e w'' ⟨he, hw⟩ => by subst hw; exact ⟨he, hT, hH⟩)) K ?_
          clear hT hH
          rintro w86 ⟨hT, hH⟩
          refine hK.out _ _ hH (fun hHn => ?_)
          clear hK K hHn w85
          simp only [Act.put, List.setIfInBounds_toArray, List.set_cons_zero, List.set_cons_succ]
          refine wpAnyH_take (i := 48) (oi := ⟨some 132, _, _, _, _, _⟩) (v := .bool false) rfl (by kernel_rfl) (by kernel_rfl) (by kernel_rfl) (fun _ _ _ h => h) (Or.inl ⟨by rfl, fun wq hq => ?_⟩) hH ?_
          · go_simp
          simp only [Act.put, List.setIfInBounds_toArray, List.set_cons_zero, List.set_cons_succ]
          refine wpAnyH_take (i := 49) (oi := ⟨some 133, _, _, _, _, _⟩) (v := .bool false) rfl (by kernel_rfl) (by kernel_rfl) (by kernel_rfl) (fun _ _ _ h => h) (Or.inl ⟨by rfl, fun wq hq => ?_⟩) hH ?_
          · go_simp
          simp only [Act.put, List.setIfInBounds_toArray, List.set_cons_zero, List.set_cons_succ]
          refine wpAnyH_take (i := 50) (oi := ⟨some 134, _, _, _, _, _⟩) (v := .bool false) rfl (by kernel_rfl) (by kernel_rfl) (by kernel_rfl) (fun _ _ _ h => h) (Or.inl ⟨by rfl, fun wq hq => ?_⟩) hH ?_
          · go_simp
          simp only [Act.put, List.setIfInBounds_toArray, List.set_cons_zero, List.set_cons_succ]
          refine wpAnyH_take (i := 51) (oi := ⟨some 135, _, _, _, _, _⟩) (v := .pointer (some ⟨fa.a, 0, none⟩)) rfl (by kernel_rfl) (by kernel_rfl) (by kernel_rfl) (fun _ _ _ h => h) (Or.inl ⟨by rfl, fun wq hq => ?_⟩) hH ?_
          · go_simp
          simp only [Act.put, List.setIfInBounds_toArray, List.set_cons_zero, List.set_cons_succ]
          refine wpAnyH_take (i := 52) (oi := ⟨some 136, _, _, _, _, _⟩) (v := .int .i64 x) rfl (by kernel_rfl) (by kernel_rfl) (by kernel_rfl) (fun _ _ _ h => h) (Or.inl ⟨by rfl, fun wq hq => ?_⟩) hH ?_
          · go_simp
          simp only [Act.put, List.setIfInBounds_toArray, List.set_cons_zero, List.set_cons_succ]
          refine wpAnyH_take (i := 54) (oi := ⟨some 138, _, _, _, _, _⟩) (v := .pointer (some ⟨fb.a, 0, none⟩)) rfl (by kernel_rfl) (by kernel_rfl) (by kernel_rfl) (fun _ _ _ h => h) (Or.inl ⟨by rfl, fun wq hq => ?_⟩) hH ?_
          · go_simp
          simp only [Act.put, List.setIfInBounds_toArray, List.set_cons_zero, List.set_cons_succ]
          refine wpAnyH_take (i := 55) (oi := ⟨some 139, _, _, _, _, _⟩) (v := .int .i64 x) rfl (by kernel_rfl) (by kernel_rfl) (by kernel_rfl) (fun _ _ _ h => h) (Or.inl ⟨by rfl, fun wq hq => ?_⟩) hH ?_
          · go_simp
          simp only [Act.put, List.setIfInBounds_toArray, List.set_cons_zero, List.set_cons_succ]
          refine wpAnyH_ready (rs := [53]) (by kernel_rfl) (by simp) (AllReadyH.cons (o := ⟨some 137, .call { callee := .value (.func 20), args := #[.tmp 135, .tmp 136], argTypes := #[25, 3] }, _, _, _, _⟩) rfl (fun K hK => ?_) AllReadyH.nil)
          rw [if_pos (by rfl)]
          refine call_step _ _ _ rfl #[.pointer (some ⟨fa.a, 0, none⟩), .int .i64 x] (by simp only [List.map_toArray, List.map_cons, List.map_nil]; rfl) (.int .i64 (baseP S3 x)) (fun w' => TwAt w fa fb fc S3 S3 Sc w' ∧ w'.heap[L]? = some (.cells #[.int .i64 2, .int .i64 oid, .int .i64 on, .int .i64 ovv] 28 (0, 0))) (by kernel_rfl) ((base_any hT.a x).mono (fun e w'' ⟨he, hb⟩ => ⟨he, hT.keep hb, blk_below hH hb⟩)) K ?_
          clear hT hH
          rintro w87 ⟨hT, hH⟩
          refine hK.out _ _ hH (fun hHn => ?_)
          clear hK K hHn w86
          simp only [Act.put, List.setIfInBounds_toArray, List.set_cons_zero, List.set_cons_succ]
          refine wpAnyH_ready (rs := [56]) (by kernel_rfl) (by simp) (AllReadyH.cons (o := ⟨some 140, .call { callee := .value (.func 20), args := #[.tmp 138, .tmp 139], argTypes := #[25, 3] }, _, _, _, _⟩) rfl (fun K hK => ?_) AllReadyH.nil)
          rw [if_pos (by rfl)]
          refine call_step _ _ _ rfl #[.pointer (some ⟨fb.a, 0, none⟩), .int .i64 x] (by simp only [List.map_toArray, List.map_cons, List.map_nil]; rfl) (.int .i64 (baseP S3 x)) (fun w' => TwAt w fa fb fc S3 S3 Sc w' ∧ w'.heap[L]? = some (.cells #[.int .i64 2, .int .i64 oid, .int .i64 on, .int .i64 ovv] 28 (0, 0))) (by kernel_rfl) ((base_any hT.b x).mono (fun e w'' ⟨he, hb⟩ => ⟨he, hT.keep hb, blk_below hH hb⟩)) K ?_
          clear hT hH
          rintro w88 ⟨hT, hH⟩
          refine hK.out _ _ hH (fun hHn => ?_)
          clear hK K hHn w87
          simp only [Act.put, List.setIfInBounds_toArray, List.set_cons_zero, List.set_cons_succ]
          refine wpAnyH_take (i := 57) (oi := ⟨some 141, _, _, _, _, _⟩) (v := .bool false) rfl (by kernel_rfl) (by kernel_rfl) (by kernel_rfl) (fun _ _ _ h => h) (Or.inl ⟨by rfl, fun wq hq => ?_⟩) hH ?_
          · go_simp
          simp only [Act.put, List.setIfInBounds_toArray, List.set_cons_zero, List.set_cons_succ]
          refine wpAnyH_take (i := 58) (oi := ⟨some 142, _, _, _, _, _⟩) (v := .bool false) rfl (by kernel_rfl) (by kernel_rfl) (by kernel_rfl) (fun _ _ _ h => h) (Or.inl ⟨by rfl, fun wq hq => ?_⟩) hH ?_
          · go_simp
          simp only [Act.put, List.setIfInBounds_toArray, List.set_cons_zero, List.set_cons_succ]
          refine wpAnyH_done (by kernel_rfl) ?_ _
          refine NoPanic.normal ?_
          have TE := Lib.hid hT
          clear hT hH
          go_wp2
          go_roundw
          case rel => exact ⟨k + 1, S3, _, by omega, by go_num, by omega, by omega, TE.out⟩
          case measure => simp [intOf]; omega
        · have d5 : decide (ok = 2) = false := by simp [hk2']
          go_wp2_with fail
          refine (alloc_any T2.out.a on (by omega)).mono ?_
          rintro e w5 ⟨rfl, hA, hM⟩
          have T3 := Lib.hid (T2.out.stepA F.out hA hM)
          have HL3 := Lib.hid ((hM.block L (blk_lt HL.out) OA.out.1 OA.out.2.1 OA.out.2.2.1 OA.out.2.2.2).trans HL.out)
          have lc2' : w5.cell? ⟨L, 2, none⟩ = some (.int .i64 on) := cell_of_row _ _ 2 _ _ _ HL3.out
          clear hA hM T2 HL lc2
          go_wp2_with fail
          refine (alloc_any T3.out.b on (by omega)).mono ?_
          rintro e w6 ⟨rfl, hA, hM⟩
          have T4 := Lib.hid (T3.out.stepB F.out hA hM)
          have HL4 := Lib.hid ((hM.block L (blk_lt HL3.out) OB.out.1 OB.out.2.1 OB.out.2.2.1 OB.out.2.2.2).trans HL3.out)
          have hlast := allocP_last S on
          clear hA hM T3 HL3 lc2'
          generalize (allocP S on).2.2 = S1 at *
          generalize ((allocP S on).1 : Int) = x at *
          generalize ((allocP S on).2.1 : Int) = er at *
          go_wp2
          refine wp_region_noPanic ?_
          refine wp_region_held_drew (S := (fun w' => w'.heap[L]? = some (.cells #[.int .i64 ok, .int .i64 oid, .int .i64 on, .int .i64 ovv] 28 (0, 0)))) (by kernel_rfl) (HL4.out) (fun hH => ?_)
          have hT : TwAt w fa fb fc S1 S1 Sc w6.drew := T4.out.keep (below_drewN (Below.refl _ _) 1)
          clear T4 HL4
          generalize w6.drew = w7 at *
          refine wpAnyH_take (i := 0) (oi := ⟨some 84, _, _, _, _, _⟩) (v := .int .i64 x) rfl (by kernel_rfl) (by kernel_rfl) (by kernel_rfl) (fun _ _ _ h => h) (Or.inl ⟨by rfl, fun wq hq => ?_⟩) hH ?_
          · go_simp
          simp only [Act.put, List.setIfInBounds_toArray, List.set_cons_zero, List.set_cons_succ]
          refine wpAnyH_take (i := 1) (oi := ⟨some 85, _, _, _, _, _⟩) (v := .int .i64 x) rfl (by kernel_rfl) (by kernel_rfl) (by kernel_rfl) (fun _ _ _ h => h) (Or.inl ⟨by rfl, fun wq hq => ?_⟩) hH ?_
          · go_simp
          simp only [Act.put, List.setIfInBounds_toArray, List.set_cons_zero, List.set_cons_succ]
          refine wpAnyH_take (i := 2) (oi := ⟨some 86, _, _, _, _, _⟩) (v := .bool false) rfl (by kernel_rfl) (by kernel_rfl) (by kernel_rfl) (fun _ _ _ h => h) (Or.inl ⟨by rfl, fun wq hq => ?_⟩) hH ?_
          · go_simp
          simp only [Act.put, List.setIfInBounds_toArray, List.set_cons_zero, List.set_cons_succ]
          refine wpAnyH_take (i := 3) (oi := ⟨some 87, _, _, _, _, _⟩) (v := .bool false) rfl (by kernel_rfl) (by kernel_rfl) (by kernel_rfl) (fun _ _ _ h => h) (Or.inl ⟨by rfl, fun wq hq => ?_⟩) hH ?_
          · go_simp
          simp only [Act.put, List.setIfInBounds_toArray, List.set_cons_zero, List.set_cons_succ]
          refine wpAnyH_take (i := 4) (oi := ⟨some 88, _, _, _, _, _⟩) (v := .int .i64 er) rfl (by kernel_rfl) (by kernel_rfl) (by kernel_rfl) (fun _ _ _ h => h) (Or.inl ⟨by rfl, fun wq hq => ?_⟩) hH ?_
          · go_simp
          simp only [Act.put, List.setIfInBounds_toArray, List.set_cons_zero, List.set_cons_succ]
          refine wpAnyH_take (i := 5) (oi := ⟨some 89, _, _, _, _, _⟩) (v := .int .i64 er) rfl (by kernel_rfl) (by kernel_rfl) (by kernel_rfl) (fun _ _ _ h => h) (Or.inl ⟨by rfl, fun wq hq => ?_⟩) hH ?_
          · go_simp
          simp only [Act.put, List.setIfInBounds_toArray, List.set_cons_zero, List.set_cons_succ]
          refine wpAnyH_take (i := 6) (oi := ⟨some 90, _, _, _, _, _⟩) (v := .bool false) rfl (by kernel_rfl) (by kernel_rfl) (by kernel_rfl) (fun _ _ _ h => h) (Or.inl ⟨by rfl, fun wq hq => ?_⟩) hH ?_
          · go_simp
          simp only [Act.put, List.setIfInBounds_toArray, List.set_cons_zero, List.set_cons_succ]
          refine wpAnyH_take (i := 7) (oi := ⟨some 91, _, _, _, _, _⟩) (v := .bool false) rfl (by kernel_rfl) (by kernel_rfl) (by kernel_rfl) (fun _ _ _ h => h) (Or.inl ⟨by rfl, fun wq hq => ?_⟩) hH ?_
          · go_simp
          simp only [Act.put, List.setIfInBounds_toArray, List.set_cons_zero, List.set_cons_succ]
          refine wpAnyH_take (i := 8) (oi := ⟨some 92, _, _, _, _, _⟩) (v := .bool false) rfl (by kernel_rfl) (by kernel_rfl) (by kernel_rfl) (fun _ _ _ h => h) (Or.inl ⟨by rfl, fun wq hq => ?_⟩) hH ?_
          · go_simp
          simp only [Act.put, List.setIfInBounds_toArray, List.set_cons_zero, List.set_cons_succ]
          refine wpAnyH_take (i := 9) (oi := ⟨some 93, _, _, _, _, _⟩) (v := .pointer (some ⟨fa.a, 0, none⟩)) rfl (by kernel_rfl) (by kernel_rfl) (by kernel_rfl) (fun _ _ _ h => h) (Or.inl ⟨by rfl, fun wq hq => ?_⟩) hH ?_
          · go_simp
          simp only [Act.put, List.setIfInBounds_toArray, List.set_cons_zero, List.set_cons_succ]
          refine wpAnyH_take (i := 10) (oi := ⟨some 94, _, _, _, _, _⟩) (v := .pointer (some ⟨L, 1, none⟩)) rfl (by kernel_rfl) (by kernel_rfl) (by kernel_rfl) (fun _ _ _ h => h) (Or.inl ⟨by rfl, fun wq hq => ?_⟩) hH ?_
          · go_simp
          simp only [Act.put, List.setIfInBounds_toArray, List.set_cons_zero, List.set_cons_succ]
          refine wpAnyH_take (i := 11) (oi := ⟨some 95, _, _, _, _, _⟩) (v := .int .i64 oid) rfl (by kernel_rfl) (by kernel_rfl) (by kernel_rfl) (fun _ _ _ h => h) (Or.inl ⟨by rfl, fun wq hq => ?_⟩) hH ?_
          · have q := cell_of_row _ _ 1 _ _ _ hq; go_simp
          simp only [Act.put, List.setIfInBounds_toArray, List.set_cons_zero, List.set_cons_succ]
          refine wpAnyH_take (i := 12) (oi := ⟨some 96, _, _, _, _, _⟩) (v := .pointer (some ⟨L, 3, none⟩)) rfl (by kernel_rfl) (by kernel_rfl) (by kernel_rfl) (fun _ _ _ h => h) (Or.inl ⟨by rfl, fun wq hq => ?_⟩) hH ?_
          · go_simp
          simp only [Act.put, List.setIfInBounds_toArray, List.set_cons_zero, List.set_cons_succ]
          refine wpAnyH_take (i := 13) (oi := ⟨some 97, _, _, _, _, _⟩) (v := .int .i64 ovv) rfl (by kernel_rfl) (by kernel_rfl) (by kernel_rfl) (fun _ _ _ h => h) (Or.inl ⟨by rfl, fun wq hq => ?_⟩) hH ?_
          · have q := cell_of_row _ _ 3 _ _ _ hq; go_simp
          simp only [Act.put, List.setIfInBounds_toArray, List.set_cons_zero, List.set_cons_succ]
          refine wpAnyH_take (i := 14) (oi := ⟨some 98, _, _, _, _, _⟩) (v := .pointer (some ⟨L, 2, none⟩)) rfl (by kernel_rfl) (by kernel_rfl) (by kernel_rfl) (fun _ _ _ h => h) (Or.inl ⟨by rfl, fun wq hq => ?_⟩) hH ?_
          · go_simp
          simp only [Act.put, List.setIfInBounds_toArray, List.set_cons_zero, List.set_cons_succ]
          refine wpAnyH_take (i := 15) (oi := ⟨some 99, _, _, _, _, _⟩) (v := .int .i64 on) rfl (by kernel_rfl) (by kernel_rfl) (by kernel_rfl) (fun _ _ _ h => h) (Or.inl ⟨by rfl, fun wq hq => ?_⟩) hH ?_
          · have q := cell_of_row _ _ 2 _ _ _ hq; go_simp
          simp only [Act.put, List.setIfInBounds_toArray, List.set_cons_zero, List.set_cons_succ]
          refine wpAnyH_take (i := 17) (oi := ⟨some 101, _, _, _, _, _⟩) (v := .pointer (some ⟨fb.a, 0, none⟩)) rfl (by kernel_rfl) (by kernel_rfl) (by kernel_rfl) (fun _ _ _ h => h) (Or.inl ⟨by rfl, fun wq hq => ?_⟩) hH ?_
          · go_simp
          simp only [Act.put, List.setIfInBounds_toArray, List.set_cons_zero, List.set_cons_succ]
          refine wpAnyH_take (i := 18) (oi := ⟨some 102, _, _, _, _, _⟩) (v := .pointer (some ⟨L, 1, none⟩)) rfl (by kernel_rfl) (by kernel_rfl) (by kernel_rfl) (fun _ _ _ h => h) (Or.inl ⟨by rfl, fun wq hq => ?_⟩) hH ?_
          · go_simp
          simp only [Act.put, List.setIfInBounds_toArray, List.set_cons_zero, List.set_cons_succ]
          refine wpAnyH_take (i := 19) (oi := ⟨some 103, _, _, _, _, _⟩) (v := .int .i64 oid) rfl (by kernel_rfl) (by kernel_rfl) (by kernel_rfl) (fun _ _ _ h => h) (Or.inl ⟨by rfl, fun wq hq => ?_⟩) hH ?_
          · have q := cell_of_row _ _ 1 _ _ _ hq; go_simp
          simp only [Act.put, List.setIfInBounds_toArray, List.set_cons_zero, List.set_cons_succ]
          refine wpAnyH_take (i := 20) (oi := ⟨some 104, _, _, _, _, _⟩) (v := .pointer (some ⟨L, 3, none⟩)) rfl (by kernel_rfl) (by kernel_rfl) (by kernel_rfl) (fun _ _ _ h => h) (Or.inl ⟨by rfl, fun wq hq => ?_⟩) hH ?_
          · go_simp
          simp only [Act.put, List.setIfInBounds_toArray, List.set_cons_zero, List.set_cons_succ]
          refine wpAnyH_take (i := 21) (oi := ⟨some 105, _, _, _, _, _⟩) (v := .int .i64 ovv) rfl (by kernel_rfl) (by kernel_rfl) (by kernel_rfl) (fun _ _ _ h => h) (Or.inl ⟨by rfl, fun wq hq => ?_⟩) hH ?_
          · have q := cell_of_row _ _ 3 _ _ _ hq; go_simp
          simp only [Act.put, List.setIfInBounds_toArray, List.set_cons_zero, List.set_cons_succ]
          refine wpAnyH_take (i := 22) (oi := ⟨some 106, _, _, _, _, _⟩) (v := .pointer (some ⟨L, 2, none⟩)) rfl (by kernel_rfl) (by kernel_rfl) (by kernel_rfl) (fun _ _ _ h => h) (Or.inl ⟨by rfl, fun wq hq => ?_⟩) hH ?_
          · go_simp
          simp only [Act.put, List.setIfInBounds_toArray, List.set_cons_zero, List.set_cons_succ]
          refine wpAnyH_take (i := 23) (oi := ⟨some 107, _, _, _, _, _⟩) (v := .int .i64 on) rfl (by kernel_rfl) (by kernel_rfl) (by kernel_rfl) (fun _ _ _ h => h) (Or.inl ⟨by rfl, fun wq hq => ?_⟩) hH ?_
          · have q := cell_of_row _ _ 2 _ _ _ hq; go_simp
          simp only [Act.put, List.setIfInBounds_toArray, List.set_cons_zero, List.set_cons_succ]
          refine wpAnyH_ready (rs := [16]) (by kernel_rfl) (by simp) (AllReadyH.cons (o := ⟨some 100, .call { callee := .value (.func 17), args := #[.tmp 93, .tmp 95, .tmp 97, .tmp 99], argTypes := #[25, 3, 3, 3] }, _, _, _, _⟩) rfl (fun K hK => ?_) AllReadyH.nil)
          rw [if_pos (by rfl)]
          refine call_step _ _ _ rfl #[.pointer (some ⟨fa.a, 0, none⟩), .int .i64 oid, .int .i64 ovv, .int .i64 on] (by simp only [List.map_toArray, List.map_cons, List.map_nil]; rfl) (.int .i64 ((setP S1 oid ovv on).1 : Int)) (fun w' => TwAt w fa fb fc (setP S1 oid ovv on).2 S1 Sc w' ∧ w'.heap[L]? = some (.cells #[.int .i64 ok, .int .i64 oid, .int .i64 on, .int .i64 ovv] 28 (0, 0))) (by kernel_rfl) ((set_any hT.a oid ovv on).mono (fun e w'' ⟨he, hA, hM⟩ => ⟨he, hT.stepA F.out hA hM, (hM.block L (blk_lt hH) OA.out.1 OA.out.2.1 OA.out.2.2.1 OA.out.2.2.2).trans hH⟩)) K ?_
          clear hT hH
          rintro w81 ⟨hT, hH⟩
          refine hK.out _ _ hH (fun hHn => ?_)
          clear hK K hHn w7
          simp only [Act.put, List.setIfInBounds_toArray, List.set_cons_zero, List.set_cons_succ]
          refine wpAnyH_ready (rs := [24]) (by kernel_rfl) (by simp) (AllReadyH.cons (o := ⟨some 108, .call { callee := .value (.func 17), args := #[.tmp 101, .tmp 103, .tmp 105, .tmp 107], argTypes := #[25, 3, 3, 3] }, _, _, _, _⟩) rfl (fun K hK => ?_) AllReadyH.nil)
          rw [if_pos (by rfl)]
          refine call_step _ _ _ rfl #[.pointer (some ⟨fb.a, 0, none⟩), .int .i64 oid, .int .i64 ovv, .int .i64 on] (by simp only [List.map_toArray, List.map_cons, List.map_nil]; rfl) (.int .i64 ((setP S1 oid ovv on).1 : Int)) (fun w' => TwAt w fa fb fc (setP S1 oid ovv on).2 (setP S1 oid ovv on).2 Sc w' ∧ w'.heap[L]? = some (.cells #[.int .i64 ok, .int .i64 oid, .int .i64 on, .int .i64 ovv] 28 (0, 0))) (by kernel_rfl) ((set_any hT.b oid ovv on).mono (fun e w'' ⟨he, hA, hM⟩ => ⟨he, hT.stepB F.out hA hM, (hM.block L (blk_lt hH) OB.out.1 OB.out.2.1 OB.out.2.2.1 OB.out.2.2.2).trans hH⟩)) K ?_
          clear hT hH
          rintro w82 ⟨hT, hH⟩
          refine hK.out _ _ hH (fun hHn => ?_)
          clear hK K hHn w81
          simp only [Act.put, List.setIfInBounds_toArray, List.set_cons_zero, List.set_cons_succ]
          have hlast2 := setP_last S1 oid ovv on
          generalize (setP S1 oid ovv on).2 = S2 at *
          generalize ((setP S1 oid ovv on).1 : Int) = sv at *
          refine wpAnyH_take (i := 25) (oi := ⟨some 109, _, _, _, _, _⟩) (v := .bool false) rfl (by kernel_rfl) (by kernel_rfl) (by kernel_rfl) (fun _ _ _ h => h) (Or.inl ⟨by rfl, fun wq hq => ?_⟩) hH ?_
          · go_simp
          simp only [Act.put, List.setIfInBounds_toArray, List.set_cons_zero, List.set_cons_succ]
          refine wpAnyH_take (i := 26) (oi := ⟨some 110, _, _, _, _, _⟩) (v := .bool false) rfl (by kernel_rfl) (by kernel_rfl) (by kernel_rfl) (fun _ _ _ h => h) (Or.inl ⟨by rfl, fun wq hq => ?_⟩) hH ?_
          · go_simp
          simp only [Act.put, List.setIfInBounds_toArray, List.set_cons_zero, List.set_cons_succ]
          refine wpAnyH_take (i := 27) (oi := ⟨some 111, _, _, _, _, _⟩) (v := .bool false) rfl (by kernel_rfl) (by kernel_rfl) (by kernel_rfl) (fun _ _ _ h => h) (Or.inl ⟨by rfl, fun wq hq => ?_⟩) hH ?_
          · go_simp
          simp only [Act.put, List.setIfInBounds_toArray, List.set_cons_zero, List.set_cons_succ]
          refine wpAnyH_take (i := 28) (oi := ⟨some 112, _, _, _, _, _⟩) (v := .pointer (some ⟨L, 0, none⟩)) rfl (by kernel_rfl) (by kernel_rfl) (by kernel_rfl) (fun _ _ _ h => h) (Or.inl ⟨by rfl, fun wq hq => ?_⟩) hH ?_
          · go_simp
          simp only [Act.put, List.setIfInBounds_toArray, List.set_cons_zero, List.set_cons_succ]
          refine wpAnyH_take (i := 29) (oi := ⟨some 113, _, _, _, _, _⟩) (v := .int .i64 ok) rfl (by kernel_rfl) (by kernel_rfl) (by kernel_rfl) (fun _ _ _ h => h) (Or.inl ⟨by rfl, fun wq hq => ?_⟩) hH ?_
          · have q := cell_of_row _ _ 0 _ _ _ hq; go_simp
          simp only [Act.put, List.setIfInBounds_toArray, List.set_cons_zero, List.set_cons_succ]
          refine wpAnyH_take (i := 30) (oi := ⟨some 114, _, _, _, _, _⟩) (v := .bool false) rfl (by kernel_rfl) (by kernel_rfl) (by kernel_rfl) (fun _ _ _ h => h) (Or.inl ⟨by rfl, fun wq hq => ?_⟩) hH ?_
          · go_simp
          simp only [Act.put, List.setIfInBounds_toArray, List.set_cons_zero, List.set_cons_succ]
          refine wpAnyH_take (i := 31) (oi := ⟨some 115, _, _, _, _, _⟩) (v := .bool false) rfl (by kernel_rfl) (by kernel_rfl) (by kernel_rfl) (fun _ _ _ h => h) (Or.inl ⟨by rfl, fun wq hq => ?_⟩) hH ?_
          · go_simp
          simp only [Act.put, List.setIfInBounds_toArray, List.set_cons_zero, List.set_cons_succ]
          refine wpAnyH_take (i := 32) (oi := ⟨some 116, _, _, _, _, _⟩) (v := undef) rfl (by kernel_rfl) (by kernel_rfl) (by kernel_rfl) (fun _ _ _ h => h) (Or.inr ⟨by rfl, rfl⟩) hH ?_
          simp only [Act.put, List.setIfInBounds_toArray, List.set_cons_zero, List.set_cons_succ]
          refine wpAnyH_take (i := 33) (oi := ⟨some 117, _, _, _, _, _⟩) (v := undef) rfl (by kernel_rfl) (by kernel_rfl) (by kernel_rfl) (fun _ _ _ h => h) (Or.inr ⟨by rfl, rfl⟩) hH ?_
          simp only [Act.put, List.setIfInBounds_toArray, List.set_cons_zero, List.set_cons_succ]
          refine wpAnyH_take (i := 34) (oi := ⟨some 118, _, _, _, _, _⟩) (v := undef) rfl (by kernel_rfl) (by kernel_rfl) (by kernel_rfl) (fun _ _ _ h => h) (Or.inr ⟨by rfl, rfl⟩) hH ?_
          simp only [Act.put, List.setIfInBounds_toArray, List.set_cons_zero, List.set_cons_succ]
          refine wpAnyH_take (i := 35) (oi := ⟨some 119, _, _, _, _, _⟩) (v := undef) rfl (by kernel_rfl) (by kernel_rfl) (by kernel_rfl) (fun _ _ _ h => h) (Or.inr ⟨by rfl, rfl⟩) hH ?_
          simp only [Act.put, List.setIfInBounds_toArray, List.set_cons_zero, List.set_cons_succ]
          refine wpAnyH_take (i := 36) (oi := ⟨some 120, _, _, _, _, _⟩) (v := undef) rfl (by kernel_rfl) (by kernel_rfl) (by kernel_rfl) (fun _ _ _ h => h) (Or.inr ⟨by rfl, rfl⟩) hH ?_
          simp only [Act.put, List.setIfInBounds_toArray, List.set_cons_zero, List.set_cons_succ]
          refine wpAnyH_take (i := 37) (oi := ⟨some 121, _, _, _, _, _⟩) (v := undef) rfl (by kernel_rfl) (by kernel_rfl) (by kernel_rfl) (fun _ _ _ h => h) (Or.inr ⟨by rfl, rfl⟩) hH ?_
          simp only [Act.put, List.setIfInBounds_toArray, List.set_cons_zero, List.set_cons_succ]
          refine wpAnyH_take (i := 38) (oi := ⟨some 122, _, _, _, _, _⟩) (v := undef) rfl (by kernel_rfl) (by kernel_rfl) (by kernel_rfl) (fun _ _ _ h => h) (Or.inr ⟨by rfl, rfl⟩) hH ?_
          simp only [Act.put, List.setIfInBounds_toArray, List.set_cons_zero, List.set_cons_succ]
          refine wpAnyH_take (i := 39) (oi := ⟨some 123, _, _, _, _, _⟩) (v := undef) rfl (by kernel_rfl) (by kernel_rfl) (by kernel_rfl) (fun _ _ _ h => h) (Or.inr ⟨by rfl, rfl⟩) hH ?_
          simp only [Act.put, List.setIfInBounds_toArray, List.set_cons_zero, List.set_cons_succ]
          refine wpAnyH_take (i := 40) (oi := ⟨some 124, _, _, _, _, _⟩) (v := undef) rfl (by kernel_rfl) (by kernel_rfl) (by kernel_rfl) (fun _ _ _ h => h) (Or.inr ⟨by rfl, rfl⟩) hH ?_
          simp only [Act.put, List.setIfInBounds_toArray, List.set_cons_zero, List.set_cons_succ]
          refine wpAnyH_take (i := 41) (oi := ⟨some 125, _, _, _, _, _⟩) (v := .bool false) rfl (by kernel_rfl) (by kernel_rfl) (by kernel_rfl) (fun _ _ _ h => h) (Or.inl ⟨by rfl, fun wq hq => ?_⟩) hH ?_
          · go_simp
          simp only [Act.put, List.setIfInBounds_toArray, List.set_cons_zero, List.set_cons_succ]
          refine wpAnyH_take (i := 42) (oi := ⟨some 126, _, _, _, _, _⟩) (v := .bool false) rfl (by kernel_rfl) (by kernel_rfl) (by kernel_rfl) (fun _ _ _ h => h) (Or.inl ⟨by rfl, fun wq hq => ?_⟩) hH ?_
          · go_simp
          simp only [Act.put, List.setIfInBounds_toArray, List.set_cons_zero, List.set_cons_succ]
          refine wpAnyH_take (i := 43) (oi := ⟨some 127, _, _, _, _, _⟩) (v := .bool false) rfl (by kernel_rfl) (by kernel_rfl) (by kernel_rfl) (fun _ _ _ h => h) (Or.inl ⟨by rfl, fun wq hq => ?_⟩) hH ?_
          · go_simp
          simp only [Act.put, List.setIfInBounds_toArray, List.set_cons_zero, List.set_cons_succ]
          refine wpAnyH_take (i := 44) (oi := ⟨some 128, _, _, _, _, _⟩) (v := .pointer (some ⟨fa.a, 0, none⟩)) rfl (by kernel_rfl) (by kernel_rfl) (by kernel_rfl) (fun _ _ _ h => h) (Or.inl ⟨by rfl, fun wq hq => ?_⟩) hH ?_
          · go_simp
          simp only [Act.put, List.setIfInBounds_toArray, List.set_cons_zero, List.set_cons_succ]
          refine wpAnyH_take (i := 46) (oi := ⟨some 130, _, _, _, _, _⟩) (v := .pointer (some ⟨fb.a, 0, none⟩)) rfl (by kernel_rfl) (by kernel_rfl) (by kernel_rfl) (fun _ _ _ h => h) (Or.inl ⟨by rfl, fun wq hq => ?_⟩) hH ?_
          · go_simp
          simp only [Act.put, List.setIfInBounds_toArray, List.set_cons_zero, List.set_cons_succ]
          refine wpAnyH_ready (rs := [45]) (by kernel_rfl) (by simp) (AllReadyH.cons (o := ⟨some 129, .call { callee := .value (.func 19), args := #[.tmp 128], argTypes := #[25] }, _, _, _, _⟩) rfl (fun K hK => ?_) AllReadyH.nil)
          rw [if_pos (by rfl)]
          refine call_step _ _ _ rfl #[.pointer (some ⟨fa.a, 0, none⟩)] (by simp only [List.map_toArray, List.map_cons, List.map_nil]; rfl) (.int .i64 (S2.left : Int)) (fun w' => TwAt w fa fb fc S2 S2 Sc w' ∧ w'.heap[L]? = some (.cells #[.int .i64 ok, .int .i64 oid, .int .i64 on, .int .i64 ovv] 28 (0, 0))) (by kernel_rfl) ((left_any hT.a).mono (fun e w'' ⟨he, hw⟩ => by subst hw; exact ⟨he, hT, hH⟩)) K ?_
          clear hT hH
          rintro w83 ⟨hT, hH⟩
          refine hK.out _ _ hH (fun hHn => ?_)
          clear hK K hHn w82
          simp only [Act.put, List.setIfInBounds_toArray, List.set_cons_zero, List.set_cons_succ]
          refine wpAnyH_ready (rs := [47]) (by kernel_rfl) (by simp) (AllReadyH.cons (o := ⟨some 131, .call { callee := .value (.func 19), args := #[.tmp 130], argTypes := #[25] }, _, _, _, _⟩) rfl (fun K hK => ?_) AllReadyH.nil)
          rw [if_pos (by rfl)]
          refine call_step _ _ _ rfl #[.pointer (some ⟨fb.a, 0, none⟩)] (by simp only [List.map_toArray, List.map_cons, List.map_nil]; rfl) (.int .i64 (S2.left : Int)) (fun w' => TwAt w fa fb fc S2 S2 Sc w' ∧ w'.heap[L]? = some (.cells #[.int .i64 ok, .int .i64 oid, .int .i64 on, .int .i64 ovv] 28 (0, 0))) (by kernel_rfl) ((left_any hT.b).mono (fun e w'' ⟨he, hw⟩ => by subst hw; exact ⟨he, hT, hH⟩)) K ?_
          clear hT hH
          rintro w84 ⟨hT, hH⟩
          refine hK.out _ _ hH (fun hHn => ?_)
          clear hK K hHn w83
          simp only [Act.put, List.setIfInBounds_toArray, List.set_cons_zero, List.set_cons_succ]
          refine wpAnyH_take (i := 48) (oi := ⟨some 132, _, _, _, _, _⟩) (v := .bool false) rfl (by kernel_rfl) (by kernel_rfl) (by kernel_rfl) (fun _ _ _ h => h) (Or.inl ⟨by rfl, fun wq hq => ?_⟩) hH ?_
          · go_simp
          simp only [Act.put, List.setIfInBounds_toArray, List.set_cons_zero, List.set_cons_succ]
          refine wpAnyH_take (i := 49) (oi := ⟨some 133, _, _, _, _, _⟩) (v := .bool false) rfl (by kernel_rfl) (by kernel_rfl) (by kernel_rfl) (fun _ _ _ h => h) (Or.inl ⟨by rfl, fun wq hq => ?_⟩) hH ?_
          · go_simp
          simp only [Act.put, List.setIfInBounds_toArray, List.set_cons_zero, List.set_cons_succ]
          refine wpAnyH_take (i := 50) (oi := ⟨some 134, _, _, _, _, _⟩) (v := .bool false) rfl (by kernel_rfl) (by kernel_rfl) (by kernel_rfl) (fun _ _ _ h => h) (Or.inl ⟨by rfl, fun wq hq => ?_⟩) hH ?_
          · go_simp
          simp only [Act.put, List.setIfInBounds_toArray, List.set_cons_zero, List.set_cons_succ]
          refine wpAnyH_take (i := 51) (oi := ⟨some 135, _, _, _, _, _⟩) (v := .pointer (some ⟨fa.a, 0, none⟩)) rfl (by kernel_rfl) (by kernel_rfl) (by kernel_rfl) (fun _ _ _ h => h) (Or.inl ⟨by rfl, fun wq hq => ?_⟩) hH ?_
          · go_simp
          simp only [Act.put, List.setIfInBounds_toArray, List.set_cons_zero, List.set_cons_succ]
          refine wpAnyH_take (i := 52) (oi := ⟨some 136, _, _, _, _, _⟩) (v := .int .i64 x) rfl (by kernel_rfl) (by kernel_rfl) (by kernel_rfl) (fun _ _ _ h => h) (Or.inl ⟨by rfl, fun wq hq => ?_⟩) hH ?_
          · go_simp
          simp only [Act.put, List.setIfInBounds_toArray, List.set_cons_zero, List.set_cons_succ]
          refine wpAnyH_take (i := 54) (oi := ⟨some 138, _, _, _, _, _⟩) (v := .pointer (some ⟨fb.a, 0, none⟩)) rfl (by kernel_rfl) (by kernel_rfl) (by kernel_rfl) (fun _ _ _ h => h) (Or.inl ⟨by rfl, fun wq hq => ?_⟩) hH ?_
          · go_simp
          simp only [Act.put, List.setIfInBounds_toArray, List.set_cons_zero, List.set_cons_succ]
          refine wpAnyH_take (i := 55) (oi := ⟨some 139, _, _, _, _, _⟩) (v := .int .i64 x) rfl (by kernel_rfl) (by kernel_rfl) (by kernel_rfl) (fun _ _ _ h => h) (Or.inl ⟨by rfl, fun wq hq => ?_⟩) hH ?_
          · go_simp
          simp only [Act.put, List.setIfInBounds_toArray, List.set_cons_zero, List.set_cons_succ]
          refine wpAnyH_ready (rs := [53]) (by kernel_rfl) (by simp) (AllReadyH.cons (o := ⟨some 137, .call { callee := .value (.func 20), args := #[.tmp 135, .tmp 136], argTypes := #[25, 3] }, _, _, _, _⟩) rfl (fun K hK => ?_) AllReadyH.nil)
          rw [if_pos (by rfl)]
          refine call_step _ _ _ rfl #[.pointer (some ⟨fa.a, 0, none⟩), .int .i64 x] (by simp only [List.map_toArray, List.map_cons, List.map_nil]; rfl) (.int .i64 (baseP S2 x)) (fun w' => TwAt w fa fb fc S2 S2 Sc w' ∧ w'.heap[L]? = some (.cells #[.int .i64 ok, .int .i64 oid, .int .i64 on, .int .i64 ovv] 28 (0, 0))) (by kernel_rfl) ((base_any hT.a x).mono (fun e w'' ⟨he, hb⟩ => ⟨he, hT.keep hb, blk_below hH hb⟩)) K ?_
          clear hT hH
          rintro w85 ⟨hT, hH⟩
          refine hK.out _ _ hH (fun hHn => ?_)
          clear hK K hHn w84
          simp only [Act.put, List.setIfInBounds_toArray, List.set_cons_zero, List.set_cons_succ]
          refine wpAnyH_ready (rs := [56]) (by kernel_rfl) (by simp) (AllReadyH.cons (o := ⟨some 140, .call { callee := .value (.func 20), args := #[.tmp 138, .tmp 139], argTypes := #[25, 3] }, _, _, _, _⟩) rfl (fun K hK => ?_) AllReadyH.nil)
          rw [if_pos (by rfl)]
          refine call_step _ _ _ rfl #[.pointer (some ⟨fb.a, 0, none⟩), .int .i64 x] (by simp only [List.map_toArray, List.map_cons, List.map_nil]; rfl) (.int .i64 (baseP S2 x)) (fun w' => TwAt w fa fb fc S2 S2 Sc w' ∧ w'.heap[L]? = some (.cells #[.int .i64 ok, .int .i64 oid, .int .i64 on, .int .i64 ovv] 28 (0, 0))) (by kernel_rfl) ((base_any hT.b x).mono (fun e w'' ⟨he, hb⟩ => ⟨he, hT.keep hb, blk_below hH hb⟩)) K ?_
          clear hT hH
          rintro w86 ⟨hT, hH⟩
          refine hK.out _ _ hH (fun hHn => ?_)
          clear hK K hHn w85
          simp only [Act.put, List.setIfInBounds_toArray, List.set_cons_zero, List.set_cons_succ]
          refine wpAnyH_take (i := 57) (oi := ⟨some 141, _, _, _, _, _⟩) (v := .bool false) rfl (by kernel_rfl) (by kernel_rfl) (by kernel_rfl) (fun _ _ _ h => h) (Or.inl ⟨by rfl, fun wq hq => ?_⟩) hH ?_
          · go_simp
          simp only [Act.put, List.setIfInBounds_toArray, List.set_cons_zero, List.set_cons_succ]
          refine wpAnyH_take (i := 58) (oi := ⟨some 142, _, _, _, _, _⟩) (v := .bool false) rfl (by kernel_rfl) (by kernel_rfl) (by kernel_rfl) (fun _ _ _ h => h) (Or.inl ⟨by rfl, fun wq hq => ?_⟩) hH ?_
          · go_simp
          simp only [Act.put, List.setIfInBounds_toArray, List.set_cons_zero, List.set_cons_succ]
          refine wpAnyH_done (by kernel_rfl) ?_ _
          refine NoPanic.normal ?_
          have TE := Lib.hid hT
          clear hT hH
          go_wp2
          go_roundw
          case rel => exact ⟨k + 1, S2, _, by omega, by go_num, by omega, by omega, TE.out⟩
          case measure => simp [intOf]; omega
    · have d3 : decide ((k : Int) < (l1.length : Int)) = false := by simp; omega
      go_wp2
      go_returns
      exact ⟨rfl, HT.out.low⟩
theorem twice_any (size : Int) (l1 : List OpV) (A1 : Option Addr) (c1 : Nat) (l2 : List OpV) (A2 : Option Addr) (c2 : Nat) (w : World) (r1 : RowAt w 0 w.heap.size A1 (opsCells l1)) (r2 : RowAt w 0 w.heap.size A2 (opsCells l2)) :
    Calls Try.prog 3 #[.int .i64 size, .slice A1 l1.length c1, .slice A2 l2.length c2] w fun e w' => e = .returned (.bool true) ∧ Below w.heap.size w w' := by
  cases h1 : longP size l1.length with
  | true =>
    have L1 := fun wx => long_any size A1 l1.length c1 wx
    rw [h1] at L1
    have HL1 := Lib.hid L1
    clear L1 h1 r1 r2
    go_enter Try.func3, Try.ntmps3
    go_wp2_with fail
    refine (awake_any w).mono ?_
    rintro e w1 ⟨rfl, hb1⟩
    go_wp2_with fail
    refine (HL1.out w1).mono ?_
    rintro e _ ⟨rfl, rfl⟩
    go_wp2_with fail
    refine (awake_any w1).mono ?_
    rintro e w2 ⟨rfl, hb2⟩
    go_wp2
    go_returns
    exact ⟨rfl, below_all hb1 hb2⟩
  | false =>
    cases h2 : longP size l2.length with
    | true =>
      have L1 := fun wx => long_any size A1 l1.length c1 wx
      have L2 := fun wx => long_any size A2 l2.length c2 wx
      rw [h1] at L1
      rw [h2] at L2
      have HL1 := Lib.hid L1
      have HL2 := Lib.hid L2
      clear L1 L2 h1 h2 r1 r2
      go_enter Try.func3, Try.ntmps3
      go_wp2_with fail
      refine (awake_any w).mono ?_
      rintro e w1 ⟨rfl, hb1⟩
      go_wp2_with fail
      refine (HL1.out w1).mono ?_
      rintro e _ ⟨rfl, rfl⟩
      go_wp2_with fail
      refine (HL2.out w1).mono ?_
      rintro e _ ⟨rfl, rfl⟩
      go_wp2_with fail
      refine (awake_any w1).mono ?_
      rintro e w2 ⟨rfl, hb2⟩
      go_wp2
      go_returns
      exact ⟨rfl, below_all hb1 hb2⟩
    | false => exact twice_main size l1 A1 c1 l2 A2 c2 w r1 r2 h1 h2
end Go.Proofs.Ytdjmjdfkblhgdaa
