/- The law about one set more, walked. -/
import Derived.Test.YtccbfcnnbdgcgaaDoorCopy
import Derived.Test.YtccbfcnnbdgcgaaDoorMoreLaw
import Derived.Outline
import Derived.Test.YtccbfcnnbdgcgaaDoorTell
namespace Go.Proofs.YtccbfcnnbdgcgaaDoor
open Go.RowKit
attribute [local go_sem] S4.val equalIn_set

def MoreAt (m : List S4) (w0 : World) (s : Value) (wx : World) : Prop := ∃ q, s = .pointer (some ⟨q, 0, none⟩) ∧ PartsAt wx w0.heap.size q (remapOf m) (setsOf m) ∧ Below w0.heap.size w0 wx
theorem heap_alloc_eq (w : World) (o : Obj) : (w.alloc o).heap = w.heap.push o := rfl
theorem heap_drew' (w : World) : w.drew.heap = w.heap := rfl
theorem RowAt.drew {w : World} {L B : Nat} {A : Option Addr} {xs : List Value} (h : RowAt w L B A xs) : RowAt w.drew L B A xs := h
theorem blk_drew {w : World} {g : Nat} {o : Obj} (h : w.heap[g]? = some o) : w.drew.heap[g]? = some o := h
theorem own_cells {w : World} {g base : Nat} {e : TypeId} {size : Nat} (h : w.heap[g]? = some (.cells #[] e (0, 0))) (hg : base ≤ g) : w.ownsRow base e size (.slice (some ⟨g, 0, none⟩) 0 0) 0 [] :=
  ⟨by simp, .inr ⟨g, 0, #[], rfl, hg, h, Nat.le_refl _, by decide, by simp, by simp⟩⟩
theorem RowAt.alloc {w : World} {L B : Nat} {A : Option Addr} {xs : List Value} (h : RowAt w L B A xs) (hB : B ≤ w.heap.size) (o : Obj) : RowAt (w.alloc o) L B A xs := h.keep ((Below.refl _ _).alloc hB o)
theorem own_one (w : World) (t : S4) : (w.alloc (.cells t.cells 35)).ownsRow w.heap.size 35 4 (.slice (some ⟨w.heap.size, 0, none⟩) 1 1) 1 t.cells.toList :=
  ⟨rfl, .inr ⟨w.heap.size, 1, t.cells, rfl, Nat.le_refl _, heap_alloc_new w _, Nat.le_refl _, by decide, rfl, rfl⟩⟩
theorem more_of (l : List S4) (t : S4) (n : Nat) (hn : n < (setsOf (l ++ [t])).length) : ∃ (b k : Nat) (s u : S4), b < 256 ∧ ofClass (setsOf (l ++ [t])) (n : Int) = s ∧ sampleB s = b ∧ remapOf l b = k ∧ k < 256 ∧ ofClass (setsOf l) (k : Int) = u ∧ s.and u = s := by
  obtain ⟨b, s, hb, hof, hsm, _, hre, hhas, _⟩ := sample_of (l ++ [t]) n hn
  obtain ⟨k, u, hk, hk256, _, hofu⟩ := class_of l b hb
  have hat := List.getElem?_eq_getElem hn
  have e := ofClass_at hat
  rw [hof] at e
  rw [← e] at hat
  have hkl : k < (setsOf l).length := by rw [← hk]; exact remap_lt l b hb
  have hau := List.getElem?_eq_getElem hkl
  have e2 := ofClass_at hau
  rw [hofu] at e2
  rw [← e2] at hau
  exact ⟨b, k, s, u, hb, hof, hsm, hk, hk256, hofu, class_in l t n b k s u hat hb hhas hk hau⟩
/-- What the law's loop keeps. -/
structure Mr (l m : List S4) (w : World) (B p q : Nat) (wr : World) : Prop where
  hP : PartsAt wr B p (remapOf l) (setsOf l)
  hQ : PartsAt wr B q (remapOf m) (setsOf m)
  b : Below w.heap.size w wr
theorem Mr.below {l m : List S4} {w : World} {B p q : Nat} {wr w1 : World} (h : Mr l m w B p q wr) (hb : Below wr.heap.size wr w1) : Mr l m w B p q w1 := ⟨h.hP.below hb, h.hQ.below hb, below_seq h.b hb h.b.size⟩
theorem Mr.drew {l m : List S4} {w : World} {B p q : Nat} {wr : World} (h : Mr l m w B p q wr) : Mr l m w B p q wr.drew := ⟨h.hP, h.hQ, h.b.drew⟩
def MrAt (l m : List S4) (N : Nat) (w : World) (B p q : Nat) (i : Value) (wr : World) : Prop := ∃ n : Nat, n ≤ N ∧ i = .int .i64 (n : Int) ∧ Mr l m w B p q wr
theorem mr_keep {l m : List S4} {w : World} {B p q : Nat} {wx w1 : World} {p0 p1 p2 p3 : Addr} {v0 v1 v2 v3 : Value}
    (h : wx.cell? p0 = some v0 ∧ wx.cell? p1 = some v1 ∧ wx.cell? p2 = some v2 ∧ wx.cell? p3 = some v3 ∧ Mr l m w B p q wx) (hb : Below wx.heap.size wx w1) :
    w1.cell? p0 = some v0 ∧ w1.cell? p1 = some v1 ∧ w1.cell? p2 = some v2 ∧ w1.cell? p3 = some v3 ∧ Mr l m w B p q w1 := by
  obtain ⟨h0, h1, h2, h3, h4⟩ := h
  have k : ∀ {p : Addr} {v : Value}, wx.cell? p = some v → w1.cell? p = some v := fun {p v} h => (hb.cell (World.block_lt_of_cell? wx p h)).trans h
  exact ⟨k h0, k h1, k h2, k h3, h4.below hb⟩
set_option maxRecDepth 100000 in
set_option maxHeartbeats 1000000 in
theorem more_any (l : List S4) (A : Option Addr) (c : Nat) (t : S4) (w : World) (hrow : RowAt w 0 w.heap.size A (setsCells l)) (hT : TabAt w) :
    Calls Tryd.prog 5 #[.slice A l.length c, t.val] w fun e w' => e = .returned (.bool true) ∧ Below w.heap.size w w' := by
  obtain ⟨i0, hi, hz0, hz1, hz2⟩ := info_parts info_set
  have hbx := heap_alloc_new w (.cells t.cells 35)
  have hB0 : Below w.heap.size w (w.alloc (.cells t.cells 35)) := (Below.refl _ _).alloc (Nat.le_refl _) _
  go_enter Tryd.func5, Tryd.ntmps5
  by_cases hlen : 20 < l.length
  · have d1 : decide ((20 : Int) < (l.length : Int)) = true := by simp; omega
    go_wp2_with fail
    refine (awake_any _ (hT.after hB0)).mono ?_
    rintro e w1 ⟨rfl, hb1⟩
    have hB := below_seq hB0 hb1 hB0.size
    go_wp2_with (go_at_call 8; refine (awake_any _ (hT.after hB)).mono ?_; rintro e w2 ⟨rfl, hb2⟩)
    go_returns
    exact ⟨rfl, below_seq hB hb2 hB.size⟩
  · have d1 : decide ((20 : Int) < (l.length : Int)) = false := by simp; omega
    go_wp2_with fail
    refine (awake_any _ (hT.after hB0)).mono ?_
    rintro e w1 ⟨rfl, hb1⟩
    have hB := below_seq hB0 hb1 hB0.size
    replace hbx := blk_below hbx hb1
    clear hb1 hB0
    have hr1 : RowAt (w1.alloc (.cells #[] 35)) 0 w.heap.size A (setsCells l) := (hrow.keep hB).keep ((Below.refl _ _).alloc hB.size _)
    go_wp2_with (at_builtin; go_loud (refine wpList_append_row rfl _ _ 22 rfl w1.heap.size 35 i0 (.agg #[.int .u64 0, .int .u64 0, .int .u64 0, .int .u64 0]) 4 32 Tryd.underlying22 hi hz0 hz1 hz2 rfl (by decide) _ _ _ rfl (own_empty _ _ _) 0 _ A l.length c (setsCells l) rfl (setsCells_length l) hr1 (List.all_eq_true.1 (setsCells_one l)) (by simp only [maxLen]; omega) (by omega) (by simp) ?_); intro v2 w2 hown2 hg2 _; obtain ⟨hb2, A2, c2, rfl, row2⟩ := copied1 hg2 hown2; replace hbx := blk_below hbx hb2; have hB2 := below_seq hB hb2 hB.size)
    refine (cut_any l (by omega) A2 c2 w2 row2).mono ?_
    rintro e w3 ⟨p, rfl, hP, hb3⟩
    have hB3 := below_seq hB2 hb3 hB2.size
    replace hbx := blk_below hbx hb3
    clear hb3 hB2 row2 hown2 hg2 hr1 hB
    have k0 := cell_of_row _ _ 0 _ _ _ hbx
    have k1 := cell_of_row _ _ 1 _ _ _ hbx
    have k2 := cell_of_row _ _ 2 _ _ _ hbx
    have k3 := cell_of_row _ _ 3 _ _ _ hbx
    go_upto_region 4 with fail
    go_cut [6] from 24 (fun s wx => MoreAt (l ++ [t]) w3 s wx)
    case first =>
      have hr3 := hrow.keep hB3
      have hs3 := hB3.size
      have q0 := fun o => cell_of_row _ _ 0 _ _ _ (blk_alloc hbx o)
      have q1 := fun o => cell_of_row _ _ 1 _ _ _ (blk_alloc hbx o)
      have q2 := fun o => cell_of_row _ _ 2 _ _ _ (blk_alloc hbx o)
      have q3 := fun o => cell_of_row _ _ 3 _ _ _ (blk_alloc hbx o)
      go_region_law (first
        | (refine step_call rfl 9 #[.tmp 29] #[22] rfl #[.slice A5 (l ++ [t]).length c5] (by simp [Act.eval]) (fun v w' => ∃ q, v = .pointer (some ⟨q, 0, none⟩) ∧ PartsAt w' w5.heap.size q (remapOf (l ++ [t])) (setsOf (l ++ [t])) ∧ Below w5.heap.size w5 w') (call_cut _ _) ((cut_any (l ++ [t]) (by simp; omega) A5 c5 w5 row5).mono (by rintro e w' ⟨q, rfl, h1, h2⟩; exact ⟨_, rfl, q, rfl, h1, h2⟩)) ?_; rintro v6 w6 ⟨q, rfl, hQ, hb6⟩)
        | (refine step_append_row rfl (.tmp 26) (.tmp 28) 22 rfl w3.heap.size 35 i0 (.agg #[.int .u64 0, .int .u64 0, .int .u64 0, .int .u64 0]) 4 32 Tryd.underlying22 hi hz0 hz1 hz2 rfl (by decide) _ l.length (setsCells l) rfl (by first | exact hown4.alloc _ | exact hown4) _ _ _ 1 1 t.cells.toList rfl rfl (by first | exact RowAt.blk (heap_alloc_new _ _) | exact RowAt.blk (h28.out _ (.cells t.cells 35 (0, 0)) (by first | exact heap_alloc2_new _ _ _ | exact heap_alloc2_old _ _ _) (by simp [Act.eval, Value.ownBlock]))) (List.all_eq_true.1 rfl) (by simp only [maxLen]; omega) (by omega) (by simp only [World.size_alloc, World.size_drew] at hs4 ⊢; omega) ?_; intro v5 w5 hown5 hg5 _
           have hb5 : Below w3.heap.size w3 w5 := Below.grown (by first | exact hb4.alloc hb4.size _ | exact hb4) hg5 (by simp only [World.size_alloc, World.size_drew] at hs4 ⊢; omega) (own_row hown4)
           obtain ⟨A5, c5, hv5⟩ := own_slice hown5
           subst hv5
           have row5 : RowAt w5 0 w5.heap.size A5 (setsCells (l ++ [t])) := by rw [setsCells_append]; exact (RowAt.own hown5).mono (Nat.zero_le _) (Nat.le_refl _))
        | (refine step_append_row rfl (.tmp 24) (.tmp 25) 22 rfl w3.heap.size 35 i0 (.agg #[.int .u64 0, .int .u64 0, .int .u64 0, .int .u64 0]) 4 32 Tryd.underlying22 hi hz0 hz1 hz2 rfl (by decide) _ 0 [] rfl (own_cells (by first | exact heap_alloc_new _ _ | exact heap_alloc2_new _ _ _ | exact heap_alloc2_old _ _ _) (by first | exact Nat.le_refl _ | omega)) 0 w.heap.size A l.length c (setsCells l) rfl (setsCells_length l) (by first | exact hr3.alloc hs3 _ | exact (hr3.alloc hs3 _).alloc (by simp; omega) _ | exact ((hr3.alloc hs3 _).alloc (by simp; omega) _).drew) (List.all_eq_true.1 (setsCells_one l)) (by simp only [maxLen]; omega) (by omega) (by simp only [World.size_alloc, World.size_drew]; omega) ?_; intro v4 w4 hown4 hg4 _; rw [Nat.zero_add, List.nil_append] at hown4
           have h28 := Lib.hid (fun (g : Nat) (o : Obj) h hne => blk_grown (g := g) (o := o) h hg4 hne)
           have hb4 : Below w3.heap.size w3 w4 := Below.grown (by first | exact ((Below.refl _ _).drew).alloc (Nat.le_refl _) _ | exact (((Below.refl _ _).drew).alloc (Nat.le_refl _) _).alloc (by simp) _ | exact (((Below.refl _ _).alloc (Nat.le_refl _) _).alloc (by simp) _).drew) hg4 (by simp only [World.size_alloc, World.size_drew]; omega) (by intro k hk; simp [Act.eval, Value.ownBlock] at hk; omega)
           have hs4 := hg4.size
           have hbx4 : w4.heap[w.heap.size]? = some (.cells t.cells 35 (0, 0)) := blk_below hbx hb4
           have j0 := cell_of_row _ _ 0 _ _ _ hbx4
           have j1 := cell_of_row _ _ 1 _ _ _ hbx4
           have j2 := cell_of_row _ _ 2 _ _ _ hbx4
           have j3 := cell_of_row _ _ 3 _ _ _ hbx4))

      all_goals
        go_wp2
        go_meet
        exact ⟨q, rfl, hQ.low hb5.size, below_seq hb5 hb6 hb5.size⟩
    case rest =>
      obtain ⟨q, rfl, hQ, hbQ⟩ := hcut
      have hB5 := below_seq hB3 hbQ hB3.size
      replace hP := hP.below hbQ
      replace hbx := blk_below hbx hbQ
      clear hbQ
      have k0 := cell_of_row _ _ 0 _ _ _ hbx
      have k1 := cell_of_row _ _ 1 _ _ _ hbx
      have k2 := cell_of_row _ _ 2 _ _ _ hbx
      have k3 := cell_of_row _ _ 3 _ _ _ hbx
      have hr5 : RowAt (wc.alloc (.cells t.cells 35)) 0 w.heap.size A (setsCells l) := (hrow.keep hB5).alloc hB5.size _
      go_wp2_with (at_builtin; go_loud (refine wpList_append_row rfl _ _ 22 rfl wc.heap.size 35 i0 (.agg #[.int .u64 0, .int .u64 0, .int .u64 0, .int .u64 0]) 4 32 Tryd.underlying22 hi hz0 hz1 hz2 rfl (by decide) _ 1 _ rfl (own_one _ t) 0 _ A l.length c (setsCells l) rfl (setsCells_length l) hr5 (List.all_eq_true.1 (setsCells_one l)) (by simp only [maxLen]; omega) (by omega) (by simp) ?_); intro v6 w6 hown6 hg6 _)
      have hg6' : (wc.alloc (.cells t.cells 35)).grownBy w6 (some wc.heap.size) := hg6
      have hB6 := (hB5.alloc hB5.size (.cells t.cells 35)).grown hg6' (Nat.le_trans hB5.size (by simp)) (fun k hk => by injection hk with hk; have := hB5.size; omega)
      have hb6 : Below wc.heap.size wc w6 := ((Below.refl _ _).alloc (Nat.le_refl _) _).grown hg6' (by simp) (fun k hk => by injection hk with hk; omega)
      replace hP := hP.below hb6
      replace hQ := hQ.below hb6
      rw [Nat.add_comm] at hown6
      obtain ⟨A6, c6, rfl⟩ := own_slice hown6
      have row6 : RowAt w6 0 w6.heap.size A6 (setsCells (t :: l)) := (RowAt.own hown6).mono (Nat.zero_le _) (Nat.le_refl _)
      clear hb6 hg6 hg6' hown6 hr5 k0 k1 k2 k3 hB5 hbx
      refine (cut_any (t :: l) (by simp; omega) A6 c6 w6 row6).mono ?_
      rintro e w7 ⟨p2, rfl, hP2, hb7⟩
      have hB7 := below_seq hB6 hb7 hB6.size
      replace hP := (hP.below hb7).low (Nat.zero_le _)
      replace hQ := (hQ.below hb7).low (Nat.zero_le _)
      clear hb7 row6 hB6
      have hm := setsOf_more l t
      have hle := setsOf_le (l ++ [t])
      have he : rcells (remapOf (t :: l)) = rcells (remapOf (l ++ [t])) := rcells_congr fun b hb => (remap_front l t b hb).symm
      have R1 := Lib.hid (fun w p (h : PartsAt w 0 p (remapOf (l ++ [t])) (setsOf (l ++ [t]))) => remap_any h)
      have R2 := Lib.hid (fun w B p (h : PartsAt w B p (remapOf (t :: l)) (setsOf (t :: l))) => remap_any h)
      rw [he] at R2
      have f6 : ∀ w, (Op.equalIn 10000 29 (.agg (rcells (remapOf (l ++ [t])))) (.agg (rcells (remapOf (l ++ [t]))))).run Tryd.prog w = .ok true w := fun w => by rw [equalIn_bytes]; exact congrArg (fun b => Result.ok b w) ((sameOn_iff _ _ 256 0).2 fun _ _ _ => rfl)
      have LP := Lib.hid (fun w p (h : PartsAt w 0 p (remapOf l) (setsOf l)) => len_any h)
      have LQ := Lib.hid (fun w p (h : PartsAt w 0 p (remapOf (l ++ [t])) (setsOf (l ++ [t]))) => len_any h)
      have MO := Lib.hid (more_of l t)
      clear he
      generalize hrs : rcells (remapOf (l ++ [t])) = rs at *
      generalize hNp : (setsOf l).length = Np at *
      generalize hNq : (setsOf (l ++ [t])).length = Nq at *
      clear hrs hNp hNq
      have d3 : decide ((Nq : Int) < (Np : Int)) = false := by simp; omega
      go_wp2_with fail
      refine (LQ.out _ _ hQ).mono ?_
      rintro e w8 ⟨rfl, rfl⟩
      go_wp2_with fail
      refine (LP.out _ _ hP).mono ?_
      rintro e w8 ⟨rfl, rfl⟩
      go_wp2_with fail
      refine (R1.out _ _ hQ).mono ?_
      rintro e w8 ⟨rfl, hb8⟩
      have hB8 := below_seq hB7 hb8 hB7.size
      replace hP := hP.below hb8
      replace hQ := hQ.below hb8
      replace hP2 := hP2.below hb8
      clear hb8 hB7
      go_wp2_with fail
      refine (R2.out _ _ _ hP2).mono ?_
      rintro e w9 ⟨rfl, hb9⟩
      have hB9 := below_seq hB8 hb9 hB8.size
      replace hP := hP.below hb9
      replace hQ := hQ.below hb9
      clear hb9 hB8 hP2
      go_wp2_with fail
      refine (LQ.out _ _ hQ).mono ?_
      rintro e w8 ⟨rfl, rfl⟩
      go_wp2
      have hM : Mr l (l ++ [t]) w 0 p q w9 := ⟨hP, hQ, hB9⟩
      clear hP hQ hB9 R1 R2 hrow hlen hm d3 f6 LP hi hz0 hz1 hz2 d1 hB3
      go_loopw [50] (fun i wr => MrAt l (l ++ [t]) Nq w 0 p q i wr) (fun i _ => Nq - (intOf i).toNat)
      case atStart => exact ⟨0, Nat.zero_le _, rfl, hM⟩
      case round =>
        obtain ⟨n, hn, rfl, hR⟩ := hrel
        by_cases hlt : n < Nq
        · have d3 : decide ((n : Int) < (Nq : Int)) = true := by simp; omega
          obtain ⟨b, k, s, u, hb, hof, hsm, hk, hk256, hofu, hsu⟩ := MO.out n hlt
          have csm := Lib.hid (fun wx (h : Mr l (l ++ [t]) w 0 p q wx) => sample_any h.hQ (hT.after h.b) (n : Int))
          rw [hof, hsm] at csm
          have ccl := Lib.hid (fun wx (h : Mr l (l ++ [t]) w 0 p q wx) => class_any h.hP (b : Int) (by omega) (by omega) k (by rw [Int.toNat_natCast]; exact hk) hk256)
          have cou := Lib.hid (fun wx (h : Mr l (l ++ [t]) w 0 p q wx) => of_class_any h.hP (k : Int))
          rw [hofu] at cou
          have cos := Lib.hid (fun wx (h : Mr l (l ++ [t]) w 0 p q wx) => of_class_any h.hQ (n : Int))
          rw [hof] at cos
          have cand := Lib.hid (fun wx => and_any s u wx)
          rw [hsu] at cand
          have HR := Lib.hid hR
          clear hof hsm hk hofu hsu hR
          go_wp2_with (first
            | (go_at_call 15; refine (csm.out _ HR.out).mono ?_; rintro e w10 ⟨rfl, hb10⟩)
            | (go_at_call 12; refine (ccl.out _ (HR.out.below hb10)).mono ?_; rintro e w11 ⟨rfl, rfl⟩)
            | (go_at_call 14; refine (cou.out _ (HR.out.below hb10)).mono ?_; rintro e w12 ⟨rfl, hb12⟩))
          have hM2 : Mr l (l ++ [t]) w 0 p q (w12.alloc (.cells u.cells 35)) := (HR.out.below (below_all hb10 hb12)).below ((Below.refl _ _).alloc (Nat.le_refl _) _)
          have hbu := heap_alloc_new w12 (.cells u.cells 35)
          generalize w12.heap.size = gu at *
          generalize w12.alloc (.cells u.cells 35) = w13 at *
          have k0 := cell_of_row _ _ 0 _ _ _ hbu
          have k1 := cell_of_row _ _ 1 _ _ _ hbu
          have k2 := cell_of_row _ _ 2 _ _ _ hbu
          have k3 := cell_of_row _ _ 3 _ _ _ hbu
          clear hb10 hb12 hbu csm ccl cou
          go_region_held3 (fun w' => w'.cell? ⟨gu, 0, none⟩ = some (.int .u64 u.w0.toNat) ∧ w'.cell? ⟨gu, 1, none⟩ = some (.int .u64 u.w1.toNat) ∧ w'.cell? ⟨gu, 2, none⟩ = some (.int .u64 u.w2.toNat) ∧ w'.cell? ⟨gu, 3, none⟩ = some (.int .u64 u.w3.toNat) ∧ Mr l (l ++ [t]) w 0 p q w')
            (first | (refine ⟨by assumption, by assumption, by assumption, by assumption, by first | assumption | exact hM2.drew⟩) | (go_split_ands; exact mr_keep ⟨by assumption, by assumption, by assumption, by assumption, by assumption⟩ hb1))
            (first | (go_at_call 21; refine (cand.out _).mono ?_; rintro e w1 ⟨rfl, hb1⟩) | (go_at_call 14; go_split_ands; refine (cos.out _ (by assumption)).mono ?_; rintro e w1 ⟨rfl, hb1⟩))
          all_goals go_wp2
          all_goals
            go_split_ands
            go_roundw
            case rel => exact ⟨n + 1, hlt, by go_num, by assumption⟩
            case measure => simp [intOf]; omega
        · have hnN : n = Nq := Nat.le_antisymm hn (Nat.le_of_not_lt hlt)
          subst hnN
          have d3 : decide ((n : Int) < (n : Int)) = false := by simp
          go_wp2
          go_returns
          exact ⟨rfl, hR.b⟩
end Go.Proofs.YtccbfcnnbdgcgaaDoor
