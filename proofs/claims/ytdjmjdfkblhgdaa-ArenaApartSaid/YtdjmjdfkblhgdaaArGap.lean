/- Where n cells fit; a region is handed out. -/
import Derived.Test.YtdjmjdfkblhgdaaArNew
namespace Go.Proofs.Ytdjmjdfkblhgdaa
open Go.RowKit
theorem bnCells_at : ∀ (xs : List BN) (i : Nat) (p : BN), xs[i]? = some p → (bnCells xs)[i * 2]? = some (.int .i64 (p.1 : Int)) ∧ (bnCells xs)[i * 2 + 1]? = some (.int .i64 (p.2 : Int)) := by
  intro xs
  induction xs with
  | nil => intro i p h; simp at h
  | cons x xs ih =>
    intro i p h
    cases i with
    | zero => simp at h; subst h; exact ⟨rfl, rfl⟩
    | succ i =>
      have := ih i p (by simpa using h)
      have e : bnCells (x :: xs) = [.int .i64 (x.1 : Int), .int .i64 (x.2 : Int)] ++ bnCells xs := rfl
      rw [e, List.getElem?_append_right (by simp; omega), List.getElem?_append_right (by simp; omega)]
      rw [show (i + 1) * 2 - [Value.int .i64 (x.1 : Int), .int .i64 (x.2 : Int)].length = i * 2 by simp; omega, show (i + 1) * 2 + 1 - [Value.int .i64 (x.1 : Int), .int .i64 (x.2 : Int)].length = i * 2 + 1 by simp; omega]
      exact this
theorem row_bn {w : World} {L B : Nat} {A : Option Addr} {xs : List BN} (h : RowAt w L B A (bnCells xs)) {i : Nat} {p : BN} (hi : xs[i]? = some p) :
    ∃ ad, A = some ad ∧ ad.block < B ∧ w.cell? (ad.add (i * 2)) = some (.int .i64 (p.1 : Int)) ∧ w.cell? ⟨(ad.add (i * 2)).block, (ad.add (i * 2)).off + 1, none⟩ = some (.int .i64 (p.2 : Int)) := by
  obtain ⟨h0, h1⟩ := bnCells_at xs i p hi
  obtain ⟨ad, rfl, _, hlt, c0⟩ := h _ _ h0
  obtain ⟨ad', e, _, _, c1⟩ := h _ _ h1
  cases e
  refine ⟨ad, rfl, hlt, c0, ?_⟩
  rw [← add_add'] at c1
  unfold Addr.add at c1 ⊢
  simpa using c1
def gapV (o : Option Nat) : Int := match o with
  | some p => p
  | none => -1
def GapAt (S : PA) (n : Int) (xs : List BN) (w1 : World) (at_ i : Value) (wr : World) : Prop :=
  ∃ (k a : Nat), k ≤ xs.length ∧ i = .int .i64 (k : Int) ∧ at_ = .int .i64 (a : Int) ∧ a ≤ S.size ∧ gapP (xs.drop k) a n S.size = gapP xs 0 n S.size ∧ Below w1.heap.size w1 wr
set_option maxRecDepth 100000 in
set_option maxHeartbeats 1000000 in
theorem gap_any {w : World} {f : Fp} {S : PA} (h : ArenaAt w f S) (n : Int) :
    Calls Try.prog 46 #[.pointer (some ⟨f.a, 0, none⟩), .int .i64 n] w fun e w' => e = .returned (.int .i64 (gapV (gapOf S n))) ∧ Below w.heap.size w w' := by
  have hl : S.regs.length ≤ 1099511627776 := by
    have h1 : S.regs.length ≤ total S.regs := by
      have : ∀ (rs : List Reg), (∀ r, r ∈ rs → 1 ≤ r.n) → rs.length ≤ total rs := by
        intro rs
        induction rs with
        | nil => intro _; simp [total]
        | cons r rs ih => intro hr; have := ih fun x hx => hr x (List.mem_cons_of_mem _ hx); have := hr r List.mem_cons_self; simp [total] at *; omega
      exact this _ fun r hr => (h.wf.pos r hr).1
    have := total_le h.wf; have := h.wf.sz; omega
  have R := Lib.hid (rows_any S.regs hl f.a f.m w h.c2 h.bm)
  have C := Lib.hid (fun wx (hb : Below w.heap.size w wx) => (h.below hb).c1)
  have hsz := h.wf.sz
  have W := Lib.hid h.wf
  clear h hl
  go_enter Try.func46, Try.ntmps46
  go_wp2_with fail
  refine R.out.mono ?_
  rintro e w1 ⟨A, c, xs, rfl, hp, hs, hown, hb⟩
  have hxs : xs = rowsP S.regs := W.out.rows_one hp hs
  have hpos : Hid (∀ x : BN, x ∈ xs → 1 ≤ x.2 ∧ x.1 + x.2 ≤ S.size) := fun x hx => by
    rw [hxs] at hx; obtain ⟨r, hr, rfl⟩ := mem_rowsP.1 hx; exact W.out.pos r hr
  have hfin : Hid (gapP xs 0 n S.size = gapOf S n) := by rw [hxs]; rfl
  have hxl : xs.length ≤ 1099511627776 := by
    have := hown.1; rw [bnCells_length] at this
    rcases hown.2 with ⟨_, h0⟩ | ⟨g, cap, cur, _, _, _, h1, h2, _⟩
    · omega
    · have := hp.length_eq
      have h3 : (bns S.regs).length ≤ S.size := by
        have : ∀ (rs : List Reg), (∀ r, r ∈ rs → 1 ≤ r.n) → rs.length ≤ total rs := by
          intro rs
          induction rs with
          | nil => intro _; simp [total]
          | cons r rs ih => intro hr; have := ih fun x hx => hr x (List.mem_cons_of_mem _ hx); have := hr r List.mem_cons_self; simp [total] at *; omega
        have := this S.regs fun r hr => (W.out.pos r hr).1
        have := total_le W.out
        simp [bns]; omega
      omega
  have hrow := RowAt.own hown
  clear hp hs hown hxs
  go_wp2
  go_loopw [5, 11] (fun a i wr => GapAt S n xs w1 a i wr) (fun _ i _ => xs.length - (intOf i).toNat)
  case atStart => exact ⟨0, 0, Nat.zero_le _, rfl, rfl, Nat.zero_le _, rfl, Below.refl _ _⟩
  case round =>
    obtain ⟨k, a, hk, rfl, rfl, ha, hg, hB⟩ := hrel
    by_cases hlt : k < xs.length
    · have d3 : decide ((k : Int) < (xs.length : Int)) = true := by simp; omega
      have hpk := hpos.out xs[k] (List.getElem_mem hlt)
      rw [List.drop_eq_getElem_cons hlt] at hg
      obtain ⟨ad, rfl, _, e0, e1⟩ := row_bn (hrow.keep hB) (List.getElem?_eq_getElem hlt)
      generalize xs[k] = p at *
      obtain ⟨pb, pn⟩ := p
      simp only at e0 e1 hpk
      have hstep : Hid (gapP ((pb, pn) :: xs.drop (k + 1)) a n S.size = gapP xs 0 n S.size) := hg
      clear hg hpos
      by_cases hfit : n ≤ (pb : Int) - (a : Int)
      · have d4 : decide (n ≤ (pb : Int) - (a : Int)) = true := by simp [hfit]
        have fin : Hid (gapV (gapOf S n) = (a : Int)) := by
          rw [← hfin.out, ← hstep.out]; unfold gapP; rw [if_pos hfit]; rfl
        have hB2 := below_seq hb hB hb.size
        clear hfit
        go_wp2
        go_returns
        exact ⟨by rw [fin.out]; rfl, hB2.alloc hB2.size _⟩
      · have d4 : decide (n ≤ (pb : Int) - (a : Int)) = false := by simp; omega
        have nxt := Lib.hid (show gapP (xs.drop (k + 1)) (pb + pn) n S.size = gapP xs 0 n S.size by
          rw [← hstep.out, gapP, if_neg hfit])
        clear hfit
        go_wp2
        go_roundw
        case rel => exact ⟨k + 1, pb + pn, by omega, by go_num, by go_num, hpk.2, nxt.out, hB.alloc hB.size _⟩
        case measure => simp [intOf]; omega
    · have hkx : k = xs.length := by omega
      have d3 : decide ((k : Int) < (xs.length : Int)) = false := by simp; omega
      rw [hkx, List.drop_length] at hg
      have hB2 := below_seq hb hB hb.size
      have c1 := C.out _ hB2
      have hg' := Lib.hid hg
      clear hg hkx
      by_cases hfit : n ≤ (S.size : Int) - (a : Int)
      · have d4 : decide (n ≤ (S.size : Int) - (a : Int)) = true := by simp [hfit]
        have fin : Hid (gapV (gapOf S n) = (a : Int)) := by
          rw [← hfin.out, ← hg'.out]; unfold gapP; rw [if_pos hfit]; rfl
        clear hfit
        go_wp2
        go_returns
        exact ⟨by rw [fin.out]; rfl, hB2⟩
      · have d4 : decide (n ≤ (S.size : Int) - (a : Int)) = false := by simp; omega
        have fin : Hid (gapV (gapOf S n) = -1) := by
          rw [← hfin.out, ← hg'.out]; unfold gapP; rw [if_neg hfit]; rfl
        clear hfit
        go_wp2
        go_returns
        exact ⟨by rw [fin.out]; rfl, hB2⟩
end Go.Proofs.Ytdjmjdfkblhgdaa
