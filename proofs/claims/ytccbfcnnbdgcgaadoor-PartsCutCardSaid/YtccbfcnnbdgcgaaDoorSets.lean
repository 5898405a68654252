/- What each function on sets of bytes computes: union, cut, complement, membership, number, least, ranges. -/
import Derived.Test.YtccbfcnnbdgcgaaDoorProg
import Derived.Test.YtccbfcnnbdgcgaaDoorPop
import Derived.Test.YtccbfcnnbdgcgaaDoorMem
import Derived.WalkKit
import Derived.WalkSpells
import Derived.WalkLawsBesides
import Derived.Outline
import Derived.Handy
import Derived.BigRegion
import Derived.Deep.QuietTactic
import Derived.BigQuiet
import Derived.Lib.Hide
import Derived.Lib.TrailingZeros
import Derived.IntWalk
namespace Go.Proofs.YtccbfcnnbdgcgaaDoor
open Go.RowKit

/-- A set as the program holds it. -/
@[reducible] def S4.val (s : S4) : Value := .agg #[.int .u64 s.w0.toNat, .int .u64 s.w1.toNat, .int .u64 s.w2.toNat, .int .u64 s.w3.toNat]
attribute [local go_sem] S4.val

theorem u64_lt (x : UInt64) : x.toNat < 18446744073709551616 := x.toNat_lt
theorem word_and (x y : UInt64) : bits .and .u64 (x.toNat : Int) (y.toNat : Int) = ((x &&& y).toNat : Int) := by
  rw [u64_and_nat _ _ (u64_lt x) (u64_lt y), UInt64.toNat_and]
theorem word_or (x y : UInt64) : bits .or .u64 (x.toNat : Int) (y.toNat : Int) = ((x ||| y).toNat : Int) := by
  rw [u64_or_nat _ _ (u64_lt x) (u64_lt y), UInt64.toNat_or]
theorem unary_xor_u64 (n : Int) : Op.unary .xor (.int .u64 n) = Op.intBits .xor .u64 18446744073709551615 n := rfl
attribute [local go_sem high] unary_xor_u64
theorem word_not (x : UInt64) : bits .xor .u64 18446744073709551615 (x.toNat : Int) = ((~~~x).toNat : Int) := by
  have h := u64_xor_nat 18446744073709551615 x.toNat (by omega) (u64_lt x)
  rw [show ((18446744073709551615 : Nat) : Int) = 18446744073709551615 from rfl] at h
  rw [h]
  congr 1

set_option maxHeartbeats 400000 in
theorem and_any (s t : S4) (w : World) :
    Calls Tryd.prog 21 #[s.val, t.val] w fun e w' => e = .returned (s.and t).val ∧ Below w.heap.size w w' := by
  go_enter Tryd.func21, Tryd.ntmps21
  go_wp2
  refine wp_loop_rounds 5 ?_
  iterate 4 (rw [rounds_succ]; go_wp2; go_region; go_wp2)
  rw [rounds_succ]; go_wp2
  go_returns
  simp only [word_and]
  refine ⟨rfl, ?_⟩
  go_grown
set_option maxHeartbeats 400000 in
theorem or_any (s t : S4) (w : World) :
    Calls Tryd.prog 19 #[s.val, t.val] w fun e w' => e = .returned (s.or t).val ∧ Below w.heap.size w w' := by
  go_enter Tryd.func19, Tryd.ntmps19
  go_wp2
  refine wp_loop_rounds 5 ?_
  iterate 4 (rw [rounds_succ]; go_wp2; go_region; go_wp2)
  rw [rounds_succ]; go_wp2
  go_returns
  simp only [word_or]
  refine ⟨rfl, ?_⟩
  go_grown
set_option maxHeartbeats 400000 in
theorem not_any (s : S4) (w : World) :
    Calls Tryd.prog 22 #[s.val] w fun e w' => e = .returned s.not.val ∧ Below w.heap.size w w' := by
  go_enter Tryd.func22, Tryd.ntmps22
  go_wp2
  refine wp_loop_rounds 5 ?_
  iterate 4 (rw [rounds_succ]; go_wp2)
  rw [rounds_succ]; go_wp2
  go_returns
  simp only [word_not]
  refine ⟨rfl, ?_⟩
  go_grown

theorem word_at (s : S4) (x : Nat) (h : x < 256) :
    [Value.int .u64 (s.w0.toNat : Int), Value.int .u64 (s.w1.toNat : Int), Value.int .u64 (s.w2.toNat : Int), Value.int .u64 (s.w3.toNat : Int)][x / 64]? = some (.int .u64 ((s.word (x / 64)).toNat : Int)) := by
  unfold S4.word
  have h4 : x / 64 = 0 ∨ x / 64 = 1 ∨ x / 64 = 2 ∨ x / 64 = 3 := by omega
  rcases h4 with e | e | e | e <;> rw [e] <;> rfl
theorem bit_cast (x : UInt64) (k : Nat) : ((x.toNat : Int) / 2 ^ k) = ((x.toNat / 2 ^ k : Nat) : Int) := by norm_cast
theorem has_bit (s : S4) (x : Nat) : ((s.word (x / 64)).toNat / 2 ^ (x % 64)) % 2 = if s.has x then 1 else 0 := by
  have h : s.has x = decide (((s.word (x / 64)).toNat / 2 ^ (x % 64)) % 2 = 1) := by
    unfold S4.has
    rw [BitVec.getLsbD, Nat.testBit_eq_decide_div_mod_eq]
    rfl
  rw [h]
  by_cases e : ((s.word (x / 64)).toNat / 2 ^ (x % 64)) % 2 = 1
  · simp [e]
  · simp [e]; omega
set_option maxHeartbeats 400000 in
theorem has_any (s : S4) (x : Nat) (hx : x < 256) (w : World) :
    Calls Tryd.prog 13 #[s.val, .int .u8 x] w fun e w' => e = .returned (.bool (s.has x)) ∧ Below w.heap.size w w' := by
  have hm := word_at s x hx
  go_enter Tryd.func13, Tryd.ntmps13
  go_wp2
  go_returns
  refine ⟨ret_bool ?_, ?_⟩
  · have hl : (s.word (x / 64)).toNat / 2 ^ (x % 64) < 18446744073709551616 := Nat.lt_of_le_of_lt (Nat.div_le_self _ _) (u64_lt _)
    have hb := u64_and_nat ((s.word (x / 64)).toNat / 2 ^ (x % 64)) 1 hl (by omega)
    rw [← bit_cast] at hb
    rw [show ((1 : Nat) : Int) = 1 from rfl] at hb
    show (bits .and .u64 (((s.word (x / 64)).toNat : Int) / 2 ^ (x % 64)) 1 == 1) = s.has x
    rw [hb, nat_mask1, has_bit]
    cases s.has x <;> rfl
  · go_grown
/-- Membership, the byte any whole number, the answer known. -/
theorem has_is (s : S4) (b : Bool) (x : Int) (h0 : 0 ≤ x) (h1 : x < 256) (hb : s.has x.toNat = b) (w : World) :
    Calls Tryd.prog 13 #[s.val, .int .u8 x] w fun e w' => e = .returned (.bool b) ∧ Below w.heap.size w w' := by
  obtain ⟨n, rfl⟩ := Int.eq_ofNat_of_zero_le h0
  rw [Int.toNat_natCast] at hb
  rw [← hb]
  exact has_any s n (by omega) w
set_option maxHeartbeats 400000 in
theorem refHas_any (s : S4) (x : Nat) (hx : x < 256) (w : World) :
    Calls Tryd.prog 20 #[s.val, .int .i64 x] w fun e w' => e = .returned (.bool (s.has x)) ∧ Below w.heap.size w w' := by
  have hm := word_at s x hx
  go_enter Tryd.func20, Tryd.ntmps20
  go_wp2
  go_returns
  refine ⟨ret_bool ?_, ?_⟩
  · show ((((s.word (x / 64)).toNat : Int) / 2 ^ (x % 64)).tmod 2 == 1) = s.has x
    rw [bit_cast, show ((((s.word (x / 64)).toNat / 2 ^ (x % 64) : Nat) : Int).tmod 2) = (((s.word (x / 64)).toNat / 2 ^ (x % 64) % 2 : Nat) : Int) from rfl, has_bit]
    cases s.has x <;> rfl
  · go_grown

theorem refHas_is (s : S4) (b : Bool) (x : Int) (h0 : 0 ≤ x) (h1 : x < 256) (hb : s.has x.toNat = b) (w : World) :
    Calls Tryd.prog 20 #[s.val, .int .i64 x] w fun e w' => e = .returned (.bool b) ∧ Below w.heap.size w w' := by
  obtain ⟨n, rfl⟩ := Int.eq_ofNat_of_zero_le h0
  rw [Int.toNat_natCast] at hb
  rw [← hb]
  exact refHas_any s n (by omega) w
theorem u64_in (n : Nat) (h : n < 18446744073709551616) : IntKind.u64.wrap (n : Int) = (n : Int) := by rw [IntKind.wrap_u64]; omega
theorem wp1 (x : Nat) (hx : x < 18446744073709551616) (h : p1 x < 18446744073709551616) :
    IntKind.u64.wrap (bits .and .u64 ((x : Int) / 2) 6148914691236517205 + bits .and .u64 (x : Int) 6148914691236517205) = (p1 x : Int) := by
  have h1 := u64_and_nat (x / 2) 6148914691236517205 (by omega) (by omega)
  have h2 := u64_and_nat x 6148914691236517205 hx (by omega)
  rw [show ((6148914691236517205 : Nat) : Int) = 6148914691236517205 from rfl] at h1 h2
  rw [show ((x : Int) / 2) = ((x / 2 : Nat) : Int) by omega, h1, h2, ← Int.natCast_add]
  exact u64_in _ h
theorem wp2_ (x : Nat) (hx : x < 18446744073709551616) (h : p2 x < 18446744073709551616) :
    IntKind.u64.wrap (bits .and .u64 ((x : Int) / 4) 3689348814741910323 + bits .and .u64 (x : Int) 3689348814741910323) = (p2 x : Int) := by
  have h1 := u64_and_nat (x / 4) 3689348814741910323 (by omega) (by omega)
  have h2 := u64_and_nat x 3689348814741910323 hx (by omega)
  rw [show ((3689348814741910323 : Nat) : Int) = 3689348814741910323 from rfl] at h1 h2
  rw [show ((x : Int) / 4) = ((x / 4 : Nat) : Int) by omega, h1, h2, ← Int.natCast_add]
  exact u64_in _ h
theorem wp3_ (x : Nat) (h : x / 16 + x < 18446744073709551616) :
    bits .and .u64 (IntKind.u64.wrap ((x : Int) / 16 + (x : Int))) 1085102592571150095 = (p3 x : Int) := by
  have h1 := u64_and_nat (x / 16 + x) 1085102592571150095 h (by omega)
  rw [show ((1085102592571150095 : Nat) : Int) = 1085102592571150095 from rfl] at h1
  rw [show ((x : Int) / 16 + (x : Int)) = ((x / 16 + x : Nat) : Int) by omega, u64_in _ h, h1]
  rfl
theorem p_up (x : Nat) : x ≤ p4 x ∧ x ≤ p5 x ∧ x ≤ p6 x := by unfold p4 p5 p6; omega
theorem ofInt_i64 (a : Nat) (ha : a < 9223372036854775808) : (BitVec.ofInt 64 (a : Int)).toNat = a := by
  rw [BitVec.ofInt_natCast, BitVec.toNat_ofNat]; exact Nat.mod_eq_of_lt (by omega)
theorem i64_and_nat (a b : Nat) (ha : a < 9223372036854775808) (hb : b < 9223372036854775808) : bits .and .i64 (a : Int) (b : Int) = ((a &&& b : Nat) : Int) := by
  have hx : a &&& b < 2 ^ 63 := Nat.and_lt_two_pow _ (by omega)
  show IntKind.i64.wrap ((BitVec.ofInt 64 (a : Int) &&& BitVec.ofInt 64 (b : Int)).toNat : Int) = _
  rw [BitVec.toNat_and, ofInt_i64 a ha, ofInt_i64 b hb, IntKind.wrap_i64]
  omega
set_option maxHeartbeats 400000 in
theorem ones_any (x : UInt64) (w : World) :
    Calls Tryd.prog 27 #[.int .u64 x.toNat] w fun e w' => e = .returned (.int .i64 (pop x)) ∧ w = w' := by
  have hx := u64_lt x
  obtain ⟨h1, h2, h3, h4, h5⟩ := swar x.toNat hx
  rw [← pop_testBit] at h4
  generalize x.toNat = n at *
  have e1 := Lib.hid (wp1 n hx h1)
  have e2 := Lib.hid (wp2_ _ h1 h2)
  have e3 := Lib.hid (wp3_ _ h3)
  have u4 := (p_up (p3 (p2 (p1 n)))).1
  have u5 := (p_up (p4 (p3 (p2 (p1 n))))).2.1
  have u6 := (p_up (p5 (p4 (p3 (p2 (p1 n)))))).2.2
  have H4 := Lib.hid h4
  clear h4
  go_enter Tryd.func27, Tryd.ntmps27
  go_wp2
  go_returns
  refine ⟨ret_int ?_, rfl⟩
  show _ = _
  simp only [e1.out, e2.out, e3.out]
  generalize p3 (p2 (p1 n)) = m at *
  have a4 : IntKind.u64.wrap ((m : Int) + (m : Int) / 256) = (p4 m : Int) := by
    rw [IntKind.wrap_u64]; unfold p4 at *; omega
  simp only [a4]
  generalize p4 m = m4 at *
  have a5 : IntKind.u64.wrap ((m4 : Int) + (m4 : Int) / 65536) = (p5 m4 : Int) := by
    rw [IntKind.wrap_u64]; unfold p5 at *; omega
  simp only [a5]
  generalize p5 m4 = m5 at *
  have a6 : IntKind.u64.wrap ((m5 : Int) + (m5 : Int) / 4294967296) = (p6 m5 : Int) := by
    rw [IntKind.wrap_u64]; unfold p6 at *; omega
  simp only [a6]
  have H := H4.out
  have hw : wrap64 ((p6 m5 : Nat) : Int) = ((p6 m5 : Nat) : Int) := by unfold wrap64; omega
  rw [hw, show (127 : Int) = ((127 : Nat) : Int) from rfl, i64_and_nat _ 127 h5 (by omega), nat_mask7, H]

theorem pop_le (x : UInt64) : pop x ≤ 64 := List.countP_le_length
set_option maxHeartbeats 400000 in
theorem count_any (s : S4) (w : World) :
    Calls Tryd.prog 16 #[s.val] w fun e w' => e = .returned (.int .i64 s.count) ∧ Below w.heap.size w w' := by
  have l0 := pop_le s.w0
  have l1 := pop_le s.w1
  have l2 := pop_le s.w2
  have l3 := pop_le s.w3
  have i0 : ∀ w, (Instr.index 35 (.agg #[.int .u64 s.w0.toNat, .int .u64 s.w1.toNat, .int .u64 s.w2.toNat, .int .u64 s.w3.toNat]) (.int .i64 0)).run Tryd.prog w = .ok (.int .u64 s.w0.toNat) w := fun _ => by kernel_rfl
  have i1 : ∀ w, (Instr.index 35 (.agg #[.int .u64 s.w0.toNat, .int .u64 s.w1.toNat, .int .u64 s.w2.toNat, .int .u64 s.w3.toNat]) (.int .i64 1)).run Tryd.prog w = .ok (.int .u64 s.w1.toNat) w := fun _ => by kernel_rfl
  have i2 : ∀ w, (Instr.index 35 (.agg #[.int .u64 s.w0.toNat, .int .u64 s.w1.toNat, .int .u64 s.w2.toNat, .int .u64 s.w3.toNat]) (.int .i64 2)).run Tryd.prog w = .ok (.int .u64 s.w2.toNat) w := fun _ => by kernel_rfl
  have i3 : ∀ w, (Instr.index 35 (.agg #[.int .u64 s.w0.toNat, .int .u64 s.w1.toNat, .int .u64 s.w2.toNat, .int .u64 s.w3.toNat]) (.int .i64 3)).run Tryd.prog w = .ok (.int .u64 s.w3.toNat) w := fun _ => by kernel_rfl
  go_enter Tryd.func16, Tryd.ntmps16
  go_wp2
  refine wp_loop_rounds 5 ?_
  rw [rounds_succ]
  go_wp2_with (go_at_call 27; refine (ones_any s.w0 _).mono ?_; rintro e w' ⟨rfl, rfl⟩)
  rw [rounds_succ]
  go_wp2_with (go_at_call 27; refine (ones_any s.w1 _).mono ?_; rintro e w' ⟨rfl, rfl⟩)
  rw [rounds_succ]
  go_wp2_with (go_at_call 27; refine (ones_any s.w2 _).mono ?_; rintro e w' ⟨rfl, rfl⟩)
  rw [rounds_succ]
  go_wp2_with (go_at_call 27; refine (ones_any s.w3 _).mono ?_; rintro e w' ⟨rfl, rfl⟩)
  rw [rounds_succ]; go_wp2
  go_returns
  refine ⟨ret_int ?_, ?_⟩
  · show _ = _
    unfold S4.count
    omega
  · go_grown

/-- The table of the library in its variable. -/
def TabAt (w : World) : Prop := ∀ j, j < Lib.deBruijn64tab.length → w.cell? ⟨0, j, none⟩ = some (.int .u8 (Lib.deBruijn64tab.getD j 0))
theorem TabAt.below {B : Nat} {w w' : World} (h : TabAt w) (hb : Below B w w') (hB : 0 < B) : TabAt w' := fun j hj => (hb.cell (p := ⟨0, j, none⟩) hB).trans (h j hj)
theorem TabAt.lt {w : World} (h : TabAt w) : 0 < w.heap.size := World.block_lt_of_cell? w ⟨0, 0, none⟩ (h 0 (by decide))
theorem TabAt.after {w w' : World} (h : TabAt w) (hb : Below w.heap.size w w') : TabAt w' := h.below hb h.lt
theorem tz_key (x a : Nat) (hx : x < 18446744073709551616) (hx0 : x ≠ 0) (hlow : x &&& (18446744073709551616 - x) = a) :
    IntKind.u64.wrap (bits BinOp.and IntKind.u64 (x : Int) (IntKind.u64.wrap (-(x : Int))) * 285870213051353865) / 288230376151711744 = ((a * 285870213051353865 % 18446744073709551616 / 288230376151711744 : Nat) : Int) := by
  have e1 : IntKind.u64.wrap (-(x : Int)) = ((18446744073709551616 - x : Nat) : Int) := by rw [IntKind.wrap_u64]; omega
  rw [e1, u64_and_nat x _ hx (by omega), hlow, IntKind.wrap_u64]
  omega
set_option maxHeartbeats 400000 in
theorem tz_core (x k idx : Nat) (w : World) (hz : ((x : Int) == 0) = false)
    (key : IntKind.u64.wrap (bits BinOp.and IntKind.u64 (x : Int) (IntKind.u64.wrap (-(x : Int))) * 285870213051353865) / 288230376151711744 = (idx : Int))
    (hi : idx < 64) (hk : k < 64) (hcell : w.cell? ⟨0, idx, none⟩ = some (.int .u8 k)) :
    Calls Tryd.prog 29 #[.int .u64 x] w fun e w' => e = .returned (.int .i64 k) ∧ w = w' := by
  go_enter Tryd.func29, Tryd.ntmps29
  go_wp2_with (simp only [key])
  go_ret
  exact ⟨rfl, rfl⟩
theorem tz_any (x : Nat) (hx : x < 18446744073709551616) (hx0 : x ≠ 0) (w : World) (hT : TabAt w) :
    Calls Tryd.prog 29 #[.int .u64 x] w fun e w' => e = .returned (.int .i64 (Lib.ctz 64 x)) ∧ w = w' := by
  obtain ⟨hlow, hk⟩ := Lib.lowest_bit 64 x hx0 hx
  obtain ⟨hi, htab⟩ := Lib.deBruijn64_at _ hk
  have hcell := hT _ hi
  rw [htab] at hcell
  exact tz_core x _ _ w (by simp; omega) (tz_key x _ hx hx0 hlow) hi hk hcell

theorem has_word (s : S4) (i j : Nat) (hj : j < 64) : s.has (i * 64 + j) = (s.word i).toNat.testBit j := by
  unfold S4.has
  rw [show (i * 64 + j) / 64 = i by omega, show (i * 64 + j) % 64 = j by omega]; rfl
theorem least_some (s : S4) (i : Nat) (hi : i < 4) (h0 : ∀ j, j < i → s.word j = 0) (h1 : (s.word i).toNat ≠ 0) : s.least = some (i * 64 + Lib.ctz 64 (s.word i).toNat) := by
  obtain ⟨m, hm, hk⟩ := Lib.ctzFrom_spec 64 (s.word i).toNat (by omega) (u64_lt _)
  have hc : Lib.ctz 64 (s.word i).toNat = Lib.ctzFrom 64 (s.word i).toNat := by unfold Lib.ctz; rw [if_neg h1]
  rw [hc]
  generalize Lib.ctzFrom 64 (s.word i).toNat = k at *
  unfold S4.least
  rw [List.find?_range_eq_some]
  refine ⟨?_, List.mem_range.2 (by omega), fun x hx => ?_⟩
  · rw [has_word _ _ _ hk, hm, Nat.testBit_two_pow_mul]
    simp
  · have hq : s.has (x / 64 * 64 + x % 64) = (s.word (x / 64)).toNat.testBit (x % 64) := has_word s (x / 64) (x % 64) (Nat.mod_lt _ (by omega))
    rw [show x / 64 * 64 + x % 64 = x by omega] at hq
    rw [hq]
    by_cases e : x / 64 = i
    · rw [e, hm, Nat.testBit_two_pow_mul]
      simp; omega
    · rw [h0 (x / 64) (by omega)]; simp
theorem least_none (s : S4) (h0 : ∀ j, j < 4 → s.word j = 0) : s.least = none := by
  unfold S4.least
  rw [List.find?_eq_none]
  intro x hx
  have hx := List.mem_range.1 hx
  have hq : s.has (x / 64 * 64 + x % 64) = (s.word (x / 64)).toNat.testBit (x % 64) := has_word s (x / 64) (x % 64) (Nat.mod_lt _ (by omega))
  rw [show x / 64 * 64 + x % 64 = x by omega] at hq
  rw [hq, h0 (x / 64) (by omega)]; simp
def leastI (s : S4) : Int := match s.least with | some b => b | none => -1
theorem leastI_some {s : S4} {b : Nat} (h : s.least = some b) : leastI s = b := by unfold leastI; rw [h]
theorem leastI_none {s : S4} (h : s.least = none) : leastI s = -1 := by unfold leastI; rw [h]
theorem u64_eq_zero {x : UInt64} (h : x.toNat = 0) : x = 0 := UInt64.toNat_inj.1 h
theorem zero1 (s : S4) (h0 : s.w0.toNat = 0) : ∀ j, j < 1 → s.word j = 0 := by
  intro j hj
  obtain rfl : j = 0 := by omega
  exact u64_eq_zero h0
theorem zero2 (s : S4) (h0 : s.w0.toNat = 0) (h1 : s.w1.toNat = 0) : ∀ j, j < 2 → s.word j = 0 := by
  intro j hj
  by_cases e : j = 1
  · subst e; exact u64_eq_zero h1
  · exact zero1 s h0 j (by omega)
theorem zero3 (s : S4) (h0 : s.w0.toNat = 0) (h1 : s.w1.toNat = 0) (h2 : s.w2.toNat = 0) : ∀ j, j < 3 → s.word j = 0 := by
  intro j hj
  by_cases e : j = 2
  · subst e; exact u64_eq_zero h2
  · exact zero2 s h0 h1 j (by omega)
theorem zero4 (s : S4) (h0 : s.w0.toNat = 0) (h1 : s.w1.toNat = 0) (h2 : s.w2.toNat = 0) (h3 : s.w3.toNat = 0) : ∀ j, j < 4 → s.word j = 0 := by
  intro j hj
  by_cases e : j = 3
  · subst e; exact u64_eq_zero h3
  · exact zero3 s h0 h1 h2 j (by omega)
set_option maxHeartbeats 1000000 in
theorem least_any (s : S4) (w : World) (hT : TabAt w) :
    Calls Tryd.prog 26 #[s.val] w fun e w' => e = .returned (.int .i64 (leastI s)) ∧ Below w.heap.size w w' := by
  have hT1 : TabAt (w.alloc (.cells #[.int .u64 s.w0.toNat, .int .u64 s.w1.toNat, .int .u64 s.w2.toNat, .int .u64 s.w3.toNat] 35)) := hT.after ((Below.refl _ _).alloc (Nat.le_refl _) _)
  have i0 : ∀ w, (Instr.index 35 (.agg #[.int .u64 s.w0.toNat, .int .u64 s.w1.toNat, .int .u64 s.w2.toNat, .int .u64 s.w3.toNat]) (.int .i64 0)).run Tryd.prog w = .ok (.int .u64 s.w0.toNat) w := fun _ => by kernel_rfl
  have i1 : ∀ w, (Instr.index 35 (.agg #[.int .u64 s.w0.toNat, .int .u64 s.w1.toNat, .int .u64 s.w2.toNat, .int .u64 s.w3.toNat]) (.int .i64 1)).run Tryd.prog w = .ok (.int .u64 s.w1.toNat) w := fun _ => by kernel_rfl
  have i2 : ∀ w, (Instr.index 35 (.agg #[.int .u64 s.w0.toNat, .int .u64 s.w1.toNat, .int .u64 s.w2.toNat, .int .u64 s.w3.toNat]) (.int .i64 2)).run Tryd.prog w = .ok (.int .u64 s.w2.toNat) w := fun _ => by kernel_rfl
  have i3 : ∀ w, (Instr.index 35 (.agg #[.int .u64 s.w0.toNat, .int .u64 s.w1.toNat, .int .u64 s.w2.toNat, .int .u64 s.w3.toNat]) (.int .i64 3)).run Tryd.prog w = .ok (.int .u64 s.w3.toNat) w := fun _ => by kernel_rfl
  have c0 : s.w0.toNat ≠ 0 → Lib.ctz 64 s.w0.toNat < 64 := fun h => (Lib.lowest_bit 64 _ h (u64_lt _)).2
  have c1 : s.w1.toNat ≠ 0 → Lib.ctz 64 s.w1.toNat < 64 := fun h => (Lib.lowest_bit 64 _ h (u64_lt _)).2
  have c2 : s.w2.toNat ≠ 0 → Lib.ctz 64 s.w2.toNat < 64 := fun h => (Lib.lowest_bit 64 _ h (u64_lt _)).2
  have c3 : s.w3.toNat ≠ 0 → Lib.ctz 64 s.w3.toNat < 64 := fun h => (Lib.lowest_bit 64 _ h (u64_lt _)).2
  by_cases h0 : s.w0.toNat = 0
  · have b0 : ((s.w0.toNat : Int) != 0) = false := by simp [h0]
    by_cases h1 : s.w1.toNat = 0
    · have b1 : ((s.w1.toNat : Int) != 0) = false := by simp [h1]
      by_cases h2 : s.w2.toNat = 0
      · have b2 : ((s.w2.toNat : Int) != 0) = false := by simp [h2]
        by_cases h3 : s.w3.toNat = 0
        · have b3 : ((s.w3.toNat : Int) != 0) = false := by simp [h3]
          have fin := Lib.hid (leastI_none (least_none s (zero4 s h0 h1 h2 h3)))
          clear h0 h1 h2 h3 c0 c1 c2 c3
          go_enter Tryd.func26, Tryd.ntmps26
          go_wp2
          refine wp_loop_rounds 5 ?_
          iterate 5 (rw [rounds_succ]; go_wp2)
          go_returns
          exact ⟨ret_int fin.out.symm, by go_grown⟩
        · have b3 : ((s.w3.toNat : Int) != 0) = true := by simp [h3]
          have fin := Lib.hid (leastI_some (least_some s 3 (by omega) (zero3 s h0 h1 h2) h3))
          have l3 := c3 h3
          have H3 := Lib.hid h3
          clear h0 h1 h2 h3 c0 c1 c2 c3
          go_enter Tryd.func26, Tryd.ntmps26
          go_wp2
          refine wp_loop_rounds 5 ?_
          iterate 3 (rw [rounds_succ]; go_wp2)
          rw [rounds_succ]
          go_wp2_with (go_at_call 29; refine (tz_any _ (u64_lt s.w3) H3.out _ hT1).mono ?_; rintro e w' ⟨rfl, rfl⟩)
          go_returns
          exact ⟨ret_int (by rw [fin.out]; show _ = _; unfold S4.word; simp), by go_grown⟩
      · have b2 : ((s.w2.toNat : Int) != 0) = true := by simp [h2]
        have fin := Lib.hid (leastI_some (least_some s 2 (by omega) (zero2 s h0 h1) h2))
        have l2 := c2 h2
        have H2 := Lib.hid h2
        clear h0 h1 h2 c0 c1 c2 c3
        go_enter Tryd.func26, Tryd.ntmps26
        go_wp2
        refine wp_loop_rounds 5 ?_
        iterate 2 (rw [rounds_succ]; go_wp2)
        rw [rounds_succ]
        go_wp2_with (go_at_call 29; refine (tz_any _ (u64_lt s.w2) H2.out _ hT1).mono ?_; rintro e w' ⟨rfl, rfl⟩)
        go_returns
        exact ⟨ret_int (by rw [fin.out]; show _ = _; unfold S4.word; simp), by go_grown⟩
    · have b1 : ((s.w1.toNat : Int) != 0) = true := by simp [h1]
      have fin := Lib.hid (leastI_some (least_some s 1 (by omega) (zero1 s h0) h1))
      have l1 := c1 h1
      have H1 := Lib.hid h1
      clear h0 h1 c0 c1 c2 c3
      go_enter Tryd.func26, Tryd.ntmps26
      go_wp2
      refine wp_loop_rounds 5 ?_
      rw [rounds_succ]; go_wp2
      rw [rounds_succ]
      go_wp2_with (go_at_call 29; refine (tz_any _ (u64_lt s.w1) H1.out _ hT1).mono ?_; rintro e w' ⟨rfl, rfl⟩)
      go_returns
      exact ⟨ret_int (by rw [fin.out]; show _ = _; unfold S4.word; simp), by go_grown⟩
  · have b0 : ((s.w0.toNat : Int) != 0) = true := by simp [h0]
    have fin := Lib.hid (leastI_some (least_some s 0 (by omega) (fun j hj => absurd hj (by omega)) h0))
    have l0 := c0 h0
    have H0 := Lib.hid h0
    clear h0 c0 c1 c2 c3
    go_enter Tryd.func26, Tryd.ntmps26
    go_wp2
    refine wp_loop_rounds 5 ?_
    rw [rounds_succ]
    go_wp2_with (go_at_call 29; refine (tz_any _ (u64_lt s.w0) H0.out _ hT1).mono ?_; rintro e w' ⟨rfl, rfl⟩)
    go_returns
    exact ⟨ret_int (by rw [fin.out]; show _ = _; unfold S4.word; simp), by go_grown⟩
end Go.Proofs.YtccbfcnnbdgcgaaDoor
