/- The number of a word's bits that are set, by halves: a plain fact. -/
import Derived.Test.YtccbfcnnbdgcgaaDoorPlain
namespace Go.Proofs.YtccbfcnnbdgcgaaDoor

def lanes : List Nat → Nat
  | [] => 0
  | a :: r => a + 256 * lanes r
theorem lanes_cons (a : Nat) (r : List Nat) : lanes (a :: r) = a + 256 * lanes r := rfl
theorem and_lane (a c n m : Nat) (ha : a < 256) (hc : c < 256) : (a + 256 * n) &&& (c + 256 * m) = (a &&& c) + 256 * (n &&& m) := by
  have e1 : a + 256 * n = 2 ^ 8 * n ||| a := by rw [← Nat.two_pow_add_eq_or_of_lt (by omega : a < 2 ^ 8)]; omega
  have e2 : c + 256 * m = 2 ^ 8 * m ||| c := by rw [← Nat.two_pow_add_eq_or_of_lt (by omega : c < 2 ^ 8)]; omega
  have h : a &&& c < 2 ^ 8 := Nat.and_lt_two_pow _ (by omega)
  have e3 : (a &&& c) + 256 * (n &&& m) = 2 ^ 8 * (n &&& m) ||| (a &&& c) := by rw [← Nat.two_pow_add_eq_or_of_lt h]; omega
  rw [e1, e2, e3]
  apply Nat.eq_of_testBit_eq
  intro i
  simp only [Nat.testBit_and, Nat.testBit_or, Nat.testBit_two_pow_mul]
  by_cases hi : 8 ≤ i
  · have h1 : a.testBit i = false := Nat.testBit_lt_two_pow (Nat.lt_of_lt_of_le (by omega : a < 2 ^ 8) (Nat.pow_le_pow_right (by omega) hi))
    have h2 : c.testBit i = false := Nat.testBit_lt_two_pow (Nat.lt_of_lt_of_le (by omega : c < 2 ^ 8) (Nat.pow_le_pow_right (by omega) hi))
    simp [hi, h1, h2]
  · simp [hi]
def maskOf (c : Nat) : Nat → Nat
  | 0 => 0
  | n + 1 => c + 256 * maskOf c n
theorem and_lanes (c : Nat) (hc : c < 256) : ∀ ds : List Nat, (∀ a, a ∈ ds → a < 256) → lanes ds &&& maskOf c ds.length = lanes (ds.map (· &&& c))
  | [], _ => by simp [lanes, maskOf]
  | a :: r, h => by
    rw [List.length_cons, maskOf, lanes_cons, and_lane _ _ _ _ (h a List.mem_cons_self) hc, and_lanes c hc r fun b hb => h b (List.mem_cons_of_mem _ hb)]
    rfl
theorem low1 : ∀ a, a < 256 → ∀ m, m < 2 → (a / 2 + 128 * m < 256 ∧ (a / 2 + 128 * m) &&& 0x55 = (a / 2) &&& 0x55) := by decide +kernel
theorem low2 : ∀ a, a < 256 → ∀ m, m < 4 → (a / 4 + 64 * m < 256 ∧ (a / 4 + 64 * m) &&& 0x33 = (a / 4) &&& 0x33) := by decide +kernel
theorem shr1_lanes : ∀ ds : List Nat, (∀ a, a ∈ ds → a < 256) → (lanes ds / 2) &&& maskOf 0x55 ds.length = lanes (ds.map fun a => (a / 2) &&& 0x55)
  | [], _ => rfl
  | a :: r, h => by
    have ha := h a List.mem_cons_self
    have e : lanes (a :: r) / 2 = (a / 2 + 128 * (lanes r % 2)) + 256 * (lanes r / 2) := by rw [lanes_cons]; omega
    obtain ⟨l1, l2⟩ := low1 a ha (lanes r % 2) (by omega)
    rw [e, List.length_cons, maskOf, and_lane _ _ _ _ l1 (by omega), l2, shr1_lanes r fun b hb => h b (List.mem_cons_of_mem _ hb)]
    rfl
theorem shr2_lanes : ∀ ds : List Nat, (∀ a, a ∈ ds → a < 256) → (lanes ds / 4) &&& maskOf 0x33 ds.length = lanes (ds.map fun a => (a / 4) &&& 0x33)
  | [], _ => rfl
  | a :: r, h => by
    have ha := h a List.mem_cons_self
    have e : lanes (a :: r) / 4 = (a / 4 + 64 * (lanes r % 4)) + 256 * (lanes r / 4) := by rw [lanes_cons]; omega
    obtain ⟨l1, l2⟩ := low2 a ha (lanes r % 4) (by omega)
    rw [e, List.length_cons, maskOf, and_lane _ _ _ _ l1 (by omega), l2, shr2_lanes r fun b hb => h b (List.mem_cons_of_mem _ hb)]
    rfl
theorem add_lanes (f g : Nat → Nat) : ∀ ds : List Nat, lanes (ds.map f) + lanes (ds.map g) = lanes (ds.map fun a => f a + g a)
  | [] => rfl
  | a :: r => by
    have h := add_lanes f g r
    simp only [List.map_cons, lanes_cons]
    omega
theorem low15 (n : Nat) : n &&& 15 = n % 16 := Nat.and_two_pow_sub_one_eq_mod n 4
theorem lanes_mod16 (r : List Nat) (h : ∀ a, a ∈ r → a / 16 ≤ 4 ∧ a % 16 ≤ 4) : lanes r % 16 ≤ 4 := by
  cases r with
  | nil => simp [lanes]
  | cons a r => rw [lanes_cons]; have := (h a List.mem_cons_self).2; omega
theorem nib_lanes : ∀ ds : List Nat, (∀ a, a ∈ ds → a / 16 ≤ 4 ∧ a % 16 ≤ 4) → (lanes ds / 16 + lanes ds) &&& maskOf 15 ds.length = lanes (ds.map fun a => a / 16 + a % 16)
  | [], _ => rfl
  | a :: r, h => by
    obtain ⟨h1, h2⟩ := h a List.mem_cons_self
    have h3 := lanes_mod16 r fun b hb => h b (List.mem_cons_of_mem _ hb)
    have e : lanes (a :: r) / 16 + lanes (a :: r) = (a / 16 + a + 16 * (lanes r % 16)) + 256 * (lanes r / 16 + lanes r) := by rw [lanes_cons]; omega
    rw [e, List.length_cons, maskOf, and_lane _ _ _ _ (by omega) (by omega), low15, nib_lanes r fun b hb => h b (List.mem_cons_of_mem _ hb), List.map_cons, lanes_cons]
    congr 1
    omega
def g1 (a : Nat) : Nat := ((a / 2) &&& 0x55) + (a &&& 0x55)
def g2 (a : Nat) : Nat := ((a / 4) &&& 0x33) + (a &&& 0x33)
def g3 (a : Nat) : Nat := a / 16 + a % 16
theorem g_all : ∀ a, a < 256 → (g1 a < 256 ∧ g2 (g1 a) < 256 ∧ g2 (g1 a) / 16 ≤ 4 ∧ g2 (g1 a) % 16 ≤ 4 ∧ g3 (g2 (g1 a)) = (List.range 8).countP a.testBit) := by decide +kernel
def p1 (x : Nat) : Nat := ((x / 2) &&& 6148914691236517205) + (x &&& 6148914691236517205)
def p2 (x : Nat) : Nat := ((x / 4) &&& 3689348814741910323) + (x &&& 3689348814741910323)
def p3 (x : Nat) : Nat := (x / 16 + x) &&& 1085102592571150095
def p4 (x : Nat) : Nat := x + x / 256
def p5 (x : Nat) : Nat := x + x / 65536
def p6 (x : Nat) : Nat := x + x / 4294967296
def bytesOf : Nat → Nat → List Nat
  | 0, _ => []
  | n + 1, x => x % 256 :: bytesOf n (x / 256)
theorem lanes_bytesOf : ∀ (n x : Nat), x < 256 ^ n → lanes (bytesOf n x) = x
  | 0, x, h => by simp [bytesOf, lanes]; simp at h; omega
  | n + 1, x, h => by
    rw [bytesOf, lanes_cons, lanes_bytesOf n (x / 256) (by rw [Nat.div_lt_iff_lt_mul (by omega)]; rw [Nat.pow_succ] at h; exact h)]
    omega
theorem bytesOf_lt : ∀ (n x a : Nat), a ∈ bytesOf n x → a < 256
  | 0, _, _, h => by simp [bytesOf] at h
  | n + 1, x, a, h => by
    rw [bytesOf, List.mem_cons] at h
    rcases h with rfl | h
    · omega
    · exact bytesOf_lt n _ a h
theorem pop_bytes (x : Nat) : ∀ n, (List.range (8 * n)).countP x.testBit = ((bytesOf n x).map fun a => (List.range 8).countP a.testBit).sum := by
  intro n
  induction n generalizing x with
  | zero => rfl
  | succ n ih =>
    rw [bytesOf, List.map_cons, List.sum_cons, ← ih, show 8 * (n + 1) = 8 + 8 * n by omega, countP_range_add]
    congr 1
    · apply countP_range_congr
      intro i hi
      rw [show (256 : Nat) = 2 ^ 8 from rfl, Nat.testBit_mod_two_pow]
      simp [hi]
    · apply countP_range_congr
      intro i hi
      rw [show (256 : Nat) = 2 ^ 8 from rfl, Nat.testBit_div_two_pow, Nat.add_comm]
theorem lanes_eight (a b c d e f g h : Nat) (ha : a ≤ 8) (hb : b ≤ 8) (hc : c ≤ 8) (hd : d ≤ 8) (he : e ≤ 8) (hf : f ≤ 8) (hg : g ≤ 8) (hh : h ≤ 8) :
    p6 (p5 (p4 (lanes [a, b, c, d, e, f, g, h]))) % 128 = a + b + c + d + e + f + g + h ∧ p6 (p5 (p4 (lanes [a, b, c, d, e, f, g, h]))) < 9223372036854775808 := by
  simp only [lanes]
  have e4 : p4 (a + 256 * (b + 256 * (c + 256 * (d + 256 * (e + 256 * (f + 256 * (g + 256 * (h + 256 * 0)))))))) = (a + b) + 256 * ((b + c) + 256 * ((c + d) + 256 * ((d + e) + 256 * ((e + f) + 256 * ((f + g) + 256 * ((g + h) + 256 * h)))))) := by unfold p4; omega
  rw [e4]
  have e5 : p5 ((a + b) + 256 * ((b + c) + 256 * ((c + d) + 256 * ((d + e) + 256 * ((e + f) + 256 * ((f + g) + 256 * ((g + h) + 256 * h))))))) =
      (a + b + c + d) + 256 * ((b + c + d + e) + 256 * ((c + d + e + f) + 256 * ((d + e + f + g) + 256 * ((e + f + g + h) + 256 * ((f + g + h) + 256 * ((g + h) + 256 * h)))))) := by unfold p5; omega
  rw [e5]
  clear e4 e5
  have e6 : ((a + b + c + d) + 256 * ((b + c + d + e) + 256 * ((c + d + e + f) + 256 * ((d + e + f + g) + 256 * ((e + f + g + h) + 256 * ((f + g + h) + 256 * ((g + h) + 256 * h))))))) / 4294967296 = (e + f + g + h) + 256 * ((f + g + h) + 256 * ((g + h) + 256 * h)) := by omega
  unfold p6
  rw [e6]
  clear e6
  omega
theorem swar (x : Nat) (hx : x < 18446744073709551616) :
    p1 x < 18446744073709551616 ∧ p2 (p1 x) < 18446744073709551616 ∧ p2 (p1 x) / 16 + p2 (p1 x) < 18446744073709551616 ∧
    p6 (p5 (p4 (p3 (p2 (p1 x))))) % 128 = (List.range 64).countP x.testBit ∧ p6 (p5 (p4 (p3 (p2 (p1 x))))) < 9223372036854775808 := by
  have hl := lanes_bytesOf 8 x (by simpa using hx)
  have hb := bytesOf_lt 8 x
  have hlen : (bytesOf 8 x).length = 8 := rfl
  have e1 : p1 x = lanes ((bytesOf 8 x).map g1) := by
    have h1 := shr1_lanes _ hb
    have h2 := and_lanes 0x55 (by omega) _ hb
    rw [hl, hlen, show maskOf 0x55 8 = 6148914691236517205 from rfl] at h1 h2
    unfold p1
    rw [h1, h2, add_lanes]
    rfl
  have hb1 : ∀ a, a ∈ (bytesOf 8 x).map g1 → a < 256 := by
    intro a ha
    obtain ⟨b, hb', rfl⟩ := List.mem_map.1 ha
    exact (g_all b (hb b hb')).1
  have e2 : p2 (p1 x) = lanes ((bytesOf 8 x).map fun a => g2 (g1 a)) := by
    have h1 := shr2_lanes _ hb1
    have h2 := and_lanes 0x33 (by omega) _ hb1
    rw [List.length_map, hlen, show maskOf 0x33 8 = 3689348814741910323 from rfl] at h1 h2
    unfold p2
    rw [e1, h1, h2, add_lanes, List.map_map]
    rfl
  have hb2 : ∀ a, a ∈ ((bytesOf 8 x).map fun a => g2 (g1 a)) → a / 16 ≤ 4 ∧ a % 16 ≤ 4 := by
    intro a ha
    obtain ⟨b, hb', rfl⟩ := List.mem_map.1 ha
    exact ⟨(g_all b (hb b hb')).2.2.1, (g_all b (hb b hb')).2.2.2.1⟩
  have e3 : p3 (p2 (p1 x)) = lanes ((bytesOf 8 x).map fun a => (List.range 8).countP a.testBit) := by
    have h1 := nib_lanes _ hb2
    rw [List.length_map, hlen, show maskOf 15 8 = 1085102592571150095 from rfl, List.map_map] at h1
    unfold p3
    rw [e2, h1]
    congr 1
    apply List.map_congr_left
    intro a ha
    exact (g_all a (hb a ha)).2.2.2.2
  have hp := pop_bytes x 8
  have hc : ∀ a : Nat, (List.range 8).countP a.testBit ≤ 8 := fun a => List.countP_le_length
  have hlt : ∀ (ds : List Nat), ds.length = 8 → (∀ a, a ∈ ds → a < 256) → lanes ds < 18446744073709551616 := by
    intro ds hd h
    match ds, hd with
    | [a, b, c, d, e, f, g, h'], _ =>
      simp only [List.mem_cons, List.not_mem_nil, or_false, forall_eq_or_imp, forall_eq] at h
      simp only [lanes]
      omega
  have hlt4 : ∀ (ds : List Nat), ds.length = 8 → (∀ a, a ∈ ds → a / 16 ≤ 4 ∧ a % 16 ≤ 4) → lanes ds / 16 + lanes ds < 18446744073709551616 := by
    intro ds hd h
    match ds, hd with
    | [a, b, c, d, e, f, g, h'], _ =>
      simp only [List.mem_cons, List.not_mem_nil, or_false, forall_eq_or_imp, forall_eq] at h
      simp only [lanes]
      omega
  refine ⟨?_, ?_, ?_, ?_⟩
  · rw [e1]; exact hlt _ (by rw [List.length_map, hlen]) hb1
  · rw [e2]; exact hlt _ (by rw [List.length_map, hlen]) fun a ha => by have := hb2 a ha; omega
  · rw [e2]; exact hlt4 _ (by rw [List.length_map, hlen]) hb2
  · rw [e3, hp]
    simp only [bytesOf, List.map_cons, List.map_nil, List.sum_cons, List.sum_nil]
    obtain ⟨h1, h2⟩ := lanes_eight _ _ _ _ _ _ _ _ (hc (x % 256)) (hc (x / 256 % 256)) (hc (x / 256 / 256 % 256)) (hc (x / 256 / 256 / 256 % 256)) (hc (x / 256 / 256 / 256 / 256 % 256)) (hc (x / 256 / 256 / 256 / 256 / 256 % 256)) (hc (x / 256 / 256 / 256 / 256 / 256 / 256 % 256)) (hc (x / 256 / 256 / 256 / 256 / 256 / 256 / 256 % 256))
    exact ⟨by rw [h1]; omega, h2⟩
theorem pop_testBit (x : UInt64) : pop x = (List.range 64).countP x.toNat.testBit := rfl
end Go.Proofs.YtccbfcnnbdgcgaaDoor
