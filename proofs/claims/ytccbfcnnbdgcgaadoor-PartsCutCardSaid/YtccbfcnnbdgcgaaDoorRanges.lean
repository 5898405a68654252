/- What Of and Ranges compute: the set of a range of bytes; a set's ranges. -/
import Derived.Test.YtccbfcnnbdgcgaaDoorSets
import Derived.Deep.LoopGhost
import Derived.Deep.Cut
namespace Go.Proofs.YtccbfcnnbdgcgaaDoor
open Go.RowKit
attribute [local go_sem] S4.val

/-- A set's cells. -/
@[reducible] def S4.cells (s : S4) : Array Value := #[.int .u64 s.w0.toNat, .int .u64 s.w1.toNat, .int .u64 s.w2.toNat, .int .u64 s.w3.toNat]
theorem word_put (x : UInt64) (k : Nat) (hk : k < 64) :
    bits .or .u64 (x.toNat : Int) (IntKind.u64.wrap (2 ^ k)) = ((x ||| UInt64.ofBitVec (BitVec.ofNat 64 (2 ^ k))).toNat : Int) := by
  have h2 : 2 ^ k < 18446744073709551616 := by
    have := Nat.pow_lt_pow_right (a := 2) (by omega) hk
    simpa using this
  have e : (2 : Int) ^ k = ((2 ^ k : Nat) : Int) := by norm_cast
  rw [e, u64_in _ h2, u64_or_nat _ _ (u64_lt x) h2, UInt64.toNat_or]
  congr 2
  simp only [UInt64.toNat_ofBitVec, BitVec.toNat_ofNat]
  exact (Nat.mod_eq_of_lt h2).symm
theorem cells_put (s : S4) (b q : Nat) (hq : b / 64 = q) (hq4 : q < 4) (v : Int) (hv : v = ((s.word q ||| UInt64.ofBitVec (BitVec.ofNat 64 (2 ^ (b % 64)))).toNat : Int)) :
    s.cells.setIfInBounds q (.int .u64 v) = (s.put b).cells := by
  subst hv
  unfold S4.put
  have : q = 0 ∨ q = 1 ∨ q = 2 ∨ q = 3 := by omega
  rcases this with rfl | rfl | rfl | rfl <;> simp [hq, S4.word]
theorem span_round (w wr : World) (lo hi n q : Nat) (hq : (lo + n) / 64 = q) (hq4 : q < 4) (hlt : lo + n ≤ hi)
    (hb : wr.heap[w.heap.size]? = some (.cells (S4.span lo n).cells 35 (0, 0))) (hB : Below w.heap.size w wr) (v : Int) (hv : v = bits .or .u64 (((S4.span lo n).word q).toNat : Int) (IntKind.u64.wrap (2 ^ ((lo + n) % 64)))) :
    (∃ n1 : Nat, n1 ≤ hi + 1 - lo ∧ Value.int .i64 ((lo : Int) + (n : Int) + 1) = .int .i64 ((lo + n1 : Nat) : Int) ∧
      (wr.setCell ⟨w.heap.size, q, none⟩ (.int .u64 v)).drew.heap[w.heap.size]? = some (.cells (S4.span lo n1).cells 35 (0, 0)) ∧ Below w.heap.size w (wr.setCell ⟨w.heap.size, q, none⟩ (.int .u64 v)).drew) := by
  refine ⟨n + 1, by omega, ?_, ?_, ?_⟩
  · congr 1
  · rw [World.drew]
    show (wr.setCell ⟨w.heap.size, q, none⟩ (.int .u64 v)).heap[w.heap.size]? = _
    rw [heap_setCell_same wr _ q _ _ _ hb]
    rw [cells_put (S4.span lo n) (lo + n) q hq hq4 v (by rw [hv, word_put _ _ (Nat.mod_lt _ (by omega))])]
    rfl
  · exact (hB.setCell (Nat.le_refl _) _).drew
set_option maxHeartbeats 1000000 in
theorem of_any (lo hi : Nat) (hlo : lo < 256) (hhi : hi < 256) (w : World) :
    Calls Tryd.prog 23 #[.int .u8 lo, .int .u8 hi] w fun e w' => e = .returned (S4.of lo hi).val ∧ Below w.heap.size w w' := by
  go_enter Tryd.func23, Tryd.ntmps23
  go_wp2
  go_loopw [5] (fun b wr => ∃ n : Nat, n ≤ hi + 1 - lo ∧ b = .int .i64 ((lo + n : Nat) : Int) ∧ wr.heap[w.heap.size]? = some (.cells (S4.span lo n).cells 35 (0, 0)) ∧ Below w.heap.size w wr)
    (fun b _ => hi + 1 - (intOf b).toNat)
  case atStart => exact ⟨0, by omega, rfl, heap_alloc_new w _, (Below.refl _ _).alloc (Nat.le_refl _) _⟩
  case round =>
    obtain ⟨n, hn, rfl, hb, hB⟩ := hrel
    have hf : ∀ j, wr.frozen? ⟨w.heap.size, j, none⟩ = false := fun j => frozen_of_row wr _ j _ _ hb
    have e0 : wr.cell? ⟨w.heap.size, 0, none⟩ = some (.int .u64 (S4.span lo n).w0.toNat) := cell_of_row wr _ 0 _ _ _ hb
    have e1 : wr.cell? ⟨w.heap.size, 1, none⟩ = some (.int .u64 (S4.span lo n).w1.toNat) := cell_of_row wr _ 1 _ _ _ hb
    have e2 : wr.cell? ⟨w.heap.size, 2, none⟩ = some (.int .u64 (S4.span lo n).w2.toNat) := cell_of_row wr _ 2 _ _ _ hb
    have e3 : wr.cell? ⟨w.heap.size, 3, none⟩ = some (.int .u64 (S4.span lo n).w3.toNat) := cell_of_row wr _ 3 _ _ _ hb
    by_cases hlt : lo + n ≤ hi
    · have hq : (lo + n) / 64 = 0 ∨ (lo + n) / 64 = 1 ∨ (lo + n) / 64 = 2 ∨ (lo + n) / 64 = 3 := by omega
      rcases hq with hq | hq | hq | hq
      all_goals
        have HB := Lib.hid hb
        clear hb
        go_wp2
        go_region
        go_wp2
        refine ⟨span_round w wr lo hi n _ hq (by omega) hlt HB.out hB _ rfl, ?_⟩
        simp [intOf]; omega
    · have hn' : n = hi + 1 - lo := by omega
      have E : Hid (S4.span lo n = S4.of lo hi) := by rw [hn']; rfl
      have HB := Lib.hid hb
      have hz : w.heap.size < wr.heap.size := (Array.getElem?_eq_some_iff.1 hb).1
      have s0 := setCell_same e0
      have s1 := setCell_same e1
      have s2 := setCell_same e2
      have s3 := setCell_same e3
      clear hb hn' hn
      go_wp2
      refine bodyPost_ret (v := (S4.span lo n).val) (by simp [results, Tryd.results23, go_sem, e0, e1, e2, e3]) rfl ⟨?_, hB⟩
      rw [E.out]

/-- What Ranges tells: pairs of bytes, flat. -/
def pairCells (l : List (Nat × Nat)) : List Value := l.flatMap fun p => [.int .u8 p.1, .int .u8 p.2]
theorem pairCells_snoc (l : List (Nat × Nat)) (p : Nat × Nat) : pairCells (l ++ [p]) = pairCells l ++ [.int .u8 p.1, .int .u8 p.2] := by simp [pairCells]
structure Covers (s : S4) (b : Nat) (l : List (Nat × Nat)) : Prop where
  ok : ∀ p, p ∈ l → p.1 ≤ p.2 ∧ p.2 < 256
  has : ∀ x, x < b → (s.has x = true ↔ ∃ p, p ∈ l ∧ p.1 ≤ x ∧ x ≤ p.2)
  len : l.length ≤ b
  low : ∀ p, p ∈ l → p.2 < b
theorem Covers.nil (s : S4) : Covers s 0 [] := ⟨by simp, fun x hx => absurd hx (by omega), by simp, by simp⟩
theorem Covers.skip {s : S4} {b : Nat} {l : List (Nat × Nat)} (h : Covers s b l) (hb : s.has b = false) : Covers s (b + 1) l := by
  refine ⟨h.ok, fun x hx => ?_, by have := h.len; omega, fun p hp => by have := h.low p hp; omega⟩
  by_cases e : x = b
  · subst e
    rw [hb]
    simp only [Bool.false_eq_true, false_iff]
    rintro ⟨p, hp, _, h2⟩
    have := h.low p hp
    omega
  · exact h.has x (by omega)
theorem Covers.run {s : S4} {b e : Nat} {l : List (Nat × Nat)} (h : Covers s b l) (hb : ∀ x, b ≤ x → x ≤ e → s.has x = true) (hbe : b ≤ e) (he : e < 256) : Covers s (e + 1) (l ++ [(b, e)]) := by
  refine ⟨?_, fun x hx => ?_, by have := h.len; simp; omega, ?_⟩
  · intro p hp
    rcases List.mem_append.1 hp with hp | hp
    · exact h.ok p hp
    · simp at hp; subst hp; exact ⟨hbe, he⟩
  · by_cases e' : x < b
    · rw [h.has x e']
      constructor
      · rintro ⟨p, hp, h1⟩; exact ⟨p, List.mem_append_left _ hp, h1⟩
      · rintro ⟨p, hp, h1⟩
        rcases List.mem_append.1 hp with hp | hp
        · exact ⟨p, hp, h1⟩
        · simp at hp; subst hp; simp at h1; omega
    · rw [hb x (by omega) (by omega)]
      simp only [true_iff]
      exact ⟨(b, e), by simp, by simp; omega, by simp; omega⟩
  · intro p hp
    rcases List.mem_append.1 hp with hp | hp
    · have := h.low p hp; omega
    · simp at hp; subst hp; simp
/-- The ranges: what the call tells, and where. -/
def RangesAt (s : S4) (w : World) (e : Ending) (w' : World) : Prop :=
  ∃ A c l, e = .returned (.slice A l.length c) ∧ Covers s 256 l ∧ RowAt w' w.heap.size w'.heap.size A (pairCells l) ∧ Below w.heap.size w w'
theorem u8_in (n : Nat) (h : n < 256) : IntKind.u8.wrap (n : Int) = (n : Int) := by simp [IntKind.wrap, IntKind.bits, IntKind.signed]; omega
theorem u8_in1 (n : Nat) (h : n + 1 < 256) : IntKind.u8.wrap ((n : Int) + 1) = (n : Int) + 1 := by simp [IntKind.wrap, IntKind.bits, IntKind.signed]; omega
theorem info_pair : (Tryd.prog.info? 57).map (fun i => (i.zero, i.size, i.bytes)) = some (some (.agg #[.int .u8 0, .int .u8 0]), 2, 2) := by kernel_rfl
set_option maxRecDepth 100000 in
set_option maxHeartbeats 400000 in
theorem ranges_any (s : S4) (w : World) : Calls Tryd.prog 28 #[s.val] w (RangesAt s w) := by
  obtain ⟨i0, hi, hz0, hz1, hz2⟩ := info_parts info_pair
  go_enter Tryd.func28, Tryd.ntmps28
  go_wp2
  go_loopw [2, 3] (fun v b wr => ∃ (n : Nat) (l : List (Nat × Nat)), n ≤ 256 ∧ b = .int .i64 (n : Int) ∧ Covers s n l ∧ wr.heap[w.heap.size]? = some (.cells s.cells 35 (0, 0)) ∧
      wr.ownsRow (w.heap.size + 1) 57 2 v l.length (pairCells l) ∧ Below w.heap.size w wr)
    (fun _ b _ => 256 - (intOf b).toNat)
  case atStart => exact ⟨0, [], by omega, rfl, Covers.nil s, heap_alloc_new w _, World.ownsRow_nil _ _ _ _, (Below.refl _ _).alloc (Nat.le_refl _) _⟩
  case round =>
    obtain ⟨n, l, hn, rfl, hcov, hb, hown, hB⟩ := hrel
    have hz : w.heap.size < wr.heap.size := (Array.getElem?_eq_some_iff.1 hb).1
    have e0 : wr.cell? ⟨w.heap.size, 0, none⟩ = some (.int .u64 s.w0.toNat) := cell_of_row wr _ 0 _ _ _ hb
    have e1 : wr.cell? ⟨w.heap.size, 1, none⟩ = some (.int .u64 s.w1.toNat) := cell_of_row wr _ 1 _ _ _ hb
    have e2 : wr.cell? ⟨w.heap.size, 2, none⟩ = some (.int .u64 s.w2.toNat) := cell_of_row wr _ 2 _ _ _ hb
    have e3 : wr.cell? ⟨w.heap.size, 3, none⟩ = some (.int .u64 s.w3.toNat) := cell_of_row wr _ 3 _ _ _ hb
    have HB := Lib.hid hb
    clear hb
    by_cases hlt : n < 256
    · have hc8 := u8_in n hlt
      cases hh : s.has (n : Int).toNat with
      | false =>
        have HH := Lib.hid hh
        clear hh
        go_wp2_with (go_at_call 13; refine (has_is s _ _ (by omega) (by omega) HH.out _).mono ?_; rintro e w1 ⟨rfl, hb1⟩)
        go_roundw
        case rel => ((repeat apply Exists.intro); exact ⟨⟨n + 1, l, by omega, by go_num, hcov.skip (by simpa using HH.out), (hb1.block _ hz).trans HB.out, own_below hown hb1, hB.trans (hb1.mono hB.size)⟩, rfl⟩)
        case measure => simp [intOf]; omega
      | true =>
        have HH := Lib.hid hh
        clear hh
        go_wp2_with (go_at_call 13; refine (has_is s _ _ (by omega) (by omega) HH.out _).mono ?_; rintro e w1 ⟨rfl, hb1⟩)
        have hb2 := (hb1.block _ hz).trans HB.out
        have hown2 := own_below hown hb1
        have hB2 := hB.trans (hb1.mono hB.size)
        clear hown hB HB hb1 e0 e1 e2 e3 hz hc8
        have HB2 := Lib.hid hb2
        clear hb2
        obtain ⟨wo, rfl⟩ : ∃ wo : World, wo = wr := ⟨_, rfl⟩
        go_loopw [3] (fun b wi => ∃ m : Nat, n ≤ m ∧ m < 256 ∧ b = .int .i64 (m : Int) ∧ (∀ x, n ≤ x → x ≤ m → s.has x = true) ∧ wi.heap[w.heap.size]? = some (.cells s.cells 35 (0, 0)) ∧
            wi.ownsRow (w.heap.size + 1) 57 2 u2 l.length (pairCells l) ∧ Below w.heap.size w wi)
          (fun b _ => 256 - (intOf b).toNat)
        case atStart => exact ⟨n, by omega, hlt, rfl, fun x h1 h2 => by rw [show x = n by omega]; simpa using HH.out, HB2.out, hown2, hB2⟩
        case round =>
          obtain ⟨m, hnm, hm, rfl, hall, hb3, hown3, hB3⟩ := hrel
          clear HB2 hown2 hB2
          have hz : w.heap.size < wr.heap.size := (Array.getElem?_eq_some_iff.1 hb3).1
          have e0 : wr.cell? ⟨w.heap.size, 0, none⟩ = some (.int .u64 s.w0.toNat) := cell_of_row wr _ 0 _ _ _ hb3
          have e1 : wr.cell? ⟨w.heap.size, 1, none⟩ = some (.int .u64 s.w1.toNat) := cell_of_row wr _ 1 _ _ _ hb3
          have e2 : wr.cell? ⟨w.heap.size, 2, none⟩ = some (.int .u64 s.w2.toNat) := cell_of_row wr _ 2 _ _ _ hb3
          have e3 : wr.cell? ⟨w.heap.size, 3, none⟩ = some (.int .u64 s.w3.toNat) := cell_of_row wr _ 3 _ _ _ hb3
          have HB3 := Lib.hid hb3
          clear hb3
          by_cases hc : m + 1 < 256 ∧ s.has (m + 1) = true
          · obtain ⟨hm1, hh1⟩ := hc
            have HH1 : Hid (s.has ((m : Int) + 1).toNat = true) := hh1
            have ha : Hid (∀ x, n ≤ x → x ≤ m + 1 → s.has x = true) := fun x h1 h2 => by
              by_cases e : x = m + 1
              · rw [e]; exact hh1
              · exact hall x h1 (by omega)
            clear hall hh1
            have hc9 := u8_in1 m hm1
            have hd : decide ((m : Int) + 1 < 256) = true := by simp; omega
            go_wp2_with (go_at_call 13; refine (has_is s _ _ (by omega) (by omega) HH1.out _).mono ?_; rintro e w1 ⟨rfl, hb1⟩)
            go_roundw
            case rel => exact ⟨m + 1, by omega, hm1, by go_num, ha, (hb1.block _ hz).trans HB3.out, own_below hown3 hb1, hB3.trans (hb1.mono hB3.size)⟩
            case measure => simp [intOf]; omega
          · have ha := Lib.hid hall
            clear hall
            have hc5 := u8_in m hm
            by_cases hm1 : m + 1 < 256
            · have hh1 : Hid (s.has ((m : Int) + 1).toNat = false) := by
                show s.has (m + 1) = false
                cases h : s.has (m + 1)
                · rfl
                · exact absurd ⟨hm1, h⟩ hc
              clear hc
              have hc9 := u8_in1 m hm1
              have hd : decide ((m : Int) + 1 < 256) = true := by simp; omega
              go_upto_region 8 with (go_at_call 13; refine (has_is s _ _ (by omega) (by omega) hh1.out _).mono ?_; rintro e w1 ⟨rfl, hb1⟩)
              have hown4 := own_below hown3 hb1
              have hB4 := hB3.trans (hb1.mono hB3.size)
              have hB4x := hb1.size
              have HB4 : Hid (w1.heap[w.heap.size]? = some (.cells s.cells 35 (0, 0))) := (hb1.block _ hz).trans HB3.out
              clear hown3 hB3 HB3 hb1 hc9 hh1 hd e0 e1 e2 e3
              have hz1' : w.heap.size + 1 ≤ w1.heap.size := Nat.lt_of_lt_of_le hz hB4x
              have hll : l.length ≤ 256 := Nat.le_trans hcov.len hn
              go_wp2_with (at_builtin; refine wpList_push rfl _ _ 55 rfl (w.heap.size + 1) 57 i0 (.agg #[.int .u8 0, .int .u8 0]) 2 2 Tryd.underlying55 hi hz0 hz1 hz2 rfl (by decide) _ _ _ rfl hown4 1 _ _ rfl rfl rfl (by omega) (by decide) hz1' ?_; intro v1 w2 hown5 hg5 _)
              go_roundw
              case rel => exact ⟨m + 1, by omega, by omega, l ++ [(n, m)], hcov.run ha.out hnm hm, blk_grown HB4.out hg5 (own_ne hown4 (by omega)), by simpa [pairCells_snoc] using hown5, hB4.grown hg5 (by omega) fun k hk => by have := own_row hown4 k hk; omega⟩
              case measure => simp [intOf]; omega
            · clear hc
              have hd : decide ((m : Int) + 1 < 256) = false := by simp; omega
              have hz1' : w.heap.size + 1 ≤ wr.heap.size := hz
              have hll : l.length ≤ 256 := Nat.le_trans hcov.len hn
              go_upto_region 8 with (fail)
              clear hd e0 e1 e2 e3
              go_wp2_with (at_builtin; refine wpList_push rfl _ _ 55 rfl (w.heap.size + 1) 57 i0 (.agg #[.int .u8 0, .int .u8 0]) 2 2 Tryd.underlying55 hi hz0 hz1 hz2 rfl (by decide) _ _ _ rfl hown3 1 _ _ rfl rfl rfl (by omega) (by decide) hz1' ?_; intro v1 w2 hown5 hg5 _)
              go_roundw
              case rel => exact ⟨m + 1, by omega, by omega, l ++ [(n, m)], hcov.run ha.out hnm hm, blk_grown HB3.out hg5 (own_ne hown3 (by omega)), by simpa [pairCells_snoc] using hown5, hB3.grown hg5 (by omega) fun k hk => by have := own_row hown3 k hk; omega⟩
              case measure => simp [intOf]; omega
    · obtain rfl : n = 256 := by omega
      go_wp2
      go_returns
      obtain ⟨A, c, hA⟩ := own_slice hown
      rw [hA] at hown
      exact ⟨A, c, l, by rw [← hA]; rfl, hcov, (RowAt.own hown).mono (by omega) (Nat.le_refl _), hB⟩
end Go.Proofs.YtccbfcnnbdgcgaaDoor
