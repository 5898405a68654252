/- Plain facts on sets of bytes, on cutting them, and on numbering classes: no program in sight. -/
namespace Go.Proofs.YtccbfcnnbdgcgaaDoor
/-- A set of bytes: four words. -/
structure S4 where
  w0 : UInt64
  w1 : UInt64
  w2 : UInt64
  w3 : UInt64
deriving DecidableEq

def S4.word (s : S4) (i : Nat) : UInt64 := if i = 0 then s.w0 else if i = 1 then s.w1 else if i = 2 then s.w2 else s.w3
def S4.has (s : S4) (b : Nat) : Bool := (s.word (b / 64)).toBitVec.getLsbD (b % 64)
def S4.and (s t : S4) : S4 := ⟨s.w0 &&& t.w0, s.w1 &&& t.w1, s.w2 &&& t.w2, s.w3 &&& t.w3⟩
def S4.or (s t : S4) : S4 := ⟨s.w0 ||| t.w0, s.w1 ||| t.w1, s.w2 ||| t.w2, s.w3 ||| t.w3⟩
def S4.not (s : S4) : S4 := ⟨~~~s.w0, ~~~s.w1, ~~~s.w2, ~~~s.w3⟩
def S4.zero : S4 := ⟨0, 0, 0, 0⟩

theorem S4.ext_has {s t : S4} (h : ∀ b, b < 256 → s.has b = t.has b) : s = t := by
  have key : ∀ i, i < 4 → s.word i = t.word i := by
    intro i hi
    apply UInt64.toBitVec_inj.1
    apply BitVec.eq_of_getLsbD_eq
    intro j hj
    have := h (i * 64 + j) (by omega)
    unfold S4.has at this
    rw [show (i * 64 + j) / 64 = i by omega, show (i * 64 + j) % 64 = j by omega] at this
    exact this
  have h0 := key 0 (by omega)
  have h1 := key 1 (by omega)
  have h2 := key 2 (by omega)
  have h3 := key 3 (by omega)
  simp [S4.word] at h0 h1 h2 h3
  cases s; cases t; simp_all

theorem S4.has_and (s t : S4) (b : Nat) : (s.and t).has b = (s.has b && t.has b) := by
  unfold S4.has S4.and S4.word
  (repeat' split) <;> simp

theorem S4.has_or (s t : S4) (b : Nat) : (s.or t).has b = (s.has b || t.has b) := by
  unfold S4.has S4.or S4.word
  (repeat' split) <;> simp

theorem S4.has_not (s : S4) (b : Nat) : s.not.has b = !s.has b := by
  have h : b % 64 < 64 := Nat.mod_lt _ (by omega)
  unfold S4.has S4.not S4.word
  (repeat' split) <;> simp [h]

theorem S4.has_zero (b : Nat) : S4.zero.has b = false := by
  unfold S4.has S4.zero S4.word
  (repeat' split) <;> simp

/-- One bit more. -/
def S4.put (s : S4) (b : Nat) : S4 :=
  let m : UInt64 := UInt64.ofBitVec (BitVec.ofNat 64 (2 ^ (b % 64)))
  if b / 64 = 0 then { s with w0 := s.w0 ||| m } else if b / 64 = 1 then { s with w1 := s.w1 ||| m } else if b / 64 = 2 then { s with w2 := s.w2 ||| m } else { s with w3 := s.w3 ||| m }

theorem S4.has_put (s : S4) (b x : Nat) (hb : b < 256) (hx : x < 256) : (s.put b).has x = (s.has x || decide (b = x)) := by
  have hm : ∀ j, (BitVec.ofNat 64 (2 ^ (b % 64))).getLsbD j = decide (b % 64 = j) := by
    intro j
    have h : b % 64 < 64 := Nat.mod_lt _ (by omega)
    rw [BitVec.getLsbD_ofNat, Nat.testBit_two_pow]
    by_cases hj : b % 64 = j
    · subst hj; simp [h]
    · simp [hj]
  have e : decide (b = x) = (decide (b / 64 = x / 64) && decide (b % 64 = x % 64)) := by
    rw [← Bool.decide_and]; apply decide_eq_decide.2; omega
  rw [e]
  unfold S4.has S4.put S4.word
  have h4 : x / 64 < 4 := by omega
  have h4b : b / 64 < 4 := by omega
  generalize x / 64 = p at *
  generalize b / 64 = q at *
  have hq : q = 0 ∨ q = 1 ∨ q = 2 ∨ q = 3 := by omega
  have hp : p = 0 ∨ p = 1 ∨ p = 2 ∨ p = 3 := by omega
  rcases hq with rfl | rfl | rfl | rfl <;> rcases hp with rfl | rfl | rfl | rfl <;> simp [hm]

/-- The bytes from lo on, n of them. -/
def S4.span (lo : Nat) : Nat → S4
  | 0 => S4.zero
  | n + 1 => (S4.span lo n).put (lo + n)
theorem S4.has_span (lo n x : Nat) (h : lo + n ≤ 256) (hx : x < 256) : (S4.span lo n).has x = decide (lo ≤ x ∧ x < lo + n) := by
  induction n with
  | zero => rw [show S4.span lo 0 = S4.zero from rfl, S4.has_zero]; simp
  | succ n ih =>
    rw [show S4.span lo (n + 1) = (S4.span lo n).put (lo + n) from rfl, S4.has_put _ _ _ (by omega) hx, ih (by omega), ← Bool.decide_or]
    apply decide_eq_decide.2; omega
/-- The bytes of a range. -/
def S4.of (lo hi : Nat) : S4 := S4.span lo (hi + 1 - lo)
theorem S4.has_of (lo hi x : Nat) (h : hi < 256) (hl : lo < 256) (hx : x < 256) : (S4.of lo hi).has x = decide (lo ≤ x ∧ x ≤ hi) := by
  unfold S4.of; rw [S4.has_span _ _ _ (by omega) hx]; apply decide_eq_decide.2; omega

/-- How many bits of a word are set. -/
def pop (w : UInt64) : Nat := (List.range 64).countP fun i => w.toBitVec.getLsbD i
def S4.count (s : S4) : Nat := pop s.w0 + pop s.w1 + pop s.w2 + pop s.w3
theorem countP_range_add (p : Nat → Bool) (n m : Nat) : (List.range (n + m)).countP p = (List.range n).countP p + (List.range m).countP fun i => p (n + i) := by
  rw [List.range_add, List.countP_append, List.countP_map]; rfl
theorem countP_range_congr (p q : Nat → Bool) (n : Nat) (h : ∀ i, i < n → p i = q i) : (List.range n).countP p = (List.range n).countP q := by
  apply List.countP_congr; intro a ha; rw [h a (List.mem_range.1 ha)]
theorem pop_word (s : S4) (i : Nat) : pop (s.word i) = (List.range 64).countP fun j => s.has (64 * i + j) := by
  unfold pop
  apply countP_range_congr
  intro j hj
  unfold S4.has
  rw [show (64 * i + j) / 64 = i by omega, show (64 * i + j) % 64 = j by omega]
theorem countP_four (p : Nat → Bool) (n : Nat) : (List.range (n + (n + (n + n)))).countP p =
    (List.range n).countP (fun j => p (n * 0 + j)) + (List.range n).countP (fun j => p (n * 1 + j)) + (List.range n).countP (fun j => p (n * 2 + j)) + (List.range n).countP (fun j => p (n * 3 + j)) := by
  rw [countP_range_add, countP_range_add, countP_range_add]
  simp only [Nat.mul_zero, Nat.zero_add, Nat.mul_one, Nat.mul_two, Nat.add_assoc, show n * 3 = n + (n + n) by omega]
theorem S4.count_eq (s : S4) : s.count = (List.range 256).countP s.has := by
  have h := countP_four s.has 64
  rw [← pop_word s 0, ← pop_word s 1, ← pop_word s 2, ← pop_word s 3] at h
  exact h.symm
theorem S4.count_pos (s : S4) : 0 < s.count ↔ ∃ b, b < 256 ∧ s.has b = true := by
  rw [S4.count_eq, List.countP_pos_iff]
  constructor
  · rintro ⟨b, hb, h⟩; exact ⟨b, List.mem_range.1 hb, h⟩
  · rintro ⟨b, hb, h⟩; exact ⟨b, List.mem_range.2 hb, h⟩
theorem S4.count_zero (s : S4) : s.count = 0 ↔ s = S4.zero := by
  constructor
  · intro h
    apply S4.ext_has
    intro b hb
    rw [S4.has_zero]
    by_cases hh : s.has b = true
    · have := (S4.count_pos s).2 ⟨b, hb, hh⟩; omega
    · simpa using hh
  · rintro rfl; decide +kernel

/-- The least byte, if there is one. -/
def S4.least (s : S4) : Option Nat := (List.range 256).find? s.has

/-- Are two bytes in the same ones of some sets? -/
def alike (l : List S4) (a b : Nat) : Bool := l.all fun s => s.has a == s.has b
theorem alike_iff (l : List S4) (a b : Nat) : alike l a b = true ↔ ∀ s, s ∈ l → s.has a = s.has b := by simp [alike]

/-- Cut by one set more. -/
def cutOne (a s : S4) : List S4 := [s.and a, s.and a.not].filter fun t => decide (0 < t.count)
def cutStep (sets : List S4) (a : S4) : List S4 := sets.flatMap (cutOne a)
def cutSets (l : List S4) : List S4 := l.foldl cutStep [S4.of 0 255]
theorem mem_cutOne (a s t : S4) : t ∈ cutOne a s ↔ (t = s.and a ∨ t = s.and a.not) ∧ ∃ b, b < 256 ∧ t.has b = true := by
  unfold cutOne
  rw [List.mem_filter]
  simp [S4.count_pos]

/-- What the sets are, cut by l. -/
structure Parted (l sets : List S4) : Prop where
  apart : sets.Pairwise fun s t => ∀ b, b < 256 → ¬ (s.has b = true ∧ t.has b = true)
  all : ∀ b, b < 256 → ∃ s, s ∈ sets ∧ s.has b = true
  some : ∀ s, s ∈ sets → ∃ b, b < 256 ∧ s.has b = true
  like : ∀ s, s ∈ sets → ∀ a b, a < 256 → b < 256 → s.has a = true → (s.has b = true ↔ alike l a b = true)
theorem parted_nil : Parted [] [S4.of 0 255] := by
  refine ⟨by simp, ?_, ?_, ?_⟩
  · intro b hb; exact ⟨_, List.mem_singleton_self _, by rw [S4.has_of _ _ _ (by omega) (by omega) hb]; simp; omega⟩
  · intro s hs; rw [List.mem_singleton] at hs; subst hs; exact ⟨0, by omega, by rw [S4.has_of _ _ _ (by omega) (by omega) (by omega)]; simp⟩
  · intro s hs a b ha hb h; rw [List.mem_singleton] at hs; subst hs
    simp only [alike_iff, List.not_mem_nil, false_implies, implies_true, iff_true]
    rw [S4.has_of _ _ _ (by omega) (by omega) hb]; simp; omega
theorem alike_snoc (l : List S4) (x : S4) (a b : Nat) : alike (l ++ [x]) a b = (alike l a b && (x.has a == x.has b)) := by simp [alike]
theorem parted_step {l sets : List S4} (h : Parted l sets) (x : S4) : Parted (l ++ [x]) (cutStep sets x) := by
  refine ⟨?_, ?_, ?_, ?_⟩
  · unfold cutStep
    rw [List.pairwise_flatMap]
    refine ⟨fun s _ => ?_, ?_⟩
    · unfold cutOne
      apply List.Pairwise.filter
      simp only [List.pairwise_cons, List.mem_singleton, forall_eq, List.not_mem_nil, false_implies, implies_true, List.Pairwise.nil, and_true]
      intro b _
      rw [S4.has_and, S4.has_and, S4.has_not]
      cases s.has b <;> cases x.has b <;> simp
    · refine h.apart.imp fun {s t} hst p hp q hq b hb hpq => ?_
      rw [mem_cutOne] at hp hq
      apply hst b hb
      constructor
      · rcases hp.1 with rfl | rfl <;> · rw [S4.has_and] at hpq; exact (Bool.and_eq_true_iff.1 hpq.1).1
      · rcases hq.1 with rfl | rfl <;> · rw [S4.has_and] at hpq; exact (Bool.and_eq_true_iff.1 hpq.2).1
  · intro b hb
    obtain ⟨s, hs, hsb⟩ := h.all b hb
    by_cases hx : x.has b = true
    · refine ⟨s.and x, ?_, by rw [S4.has_and, hsb, hx]; rfl⟩
      exact List.mem_flatMap.2 ⟨s, hs, (mem_cutOne _ _ _).2 ⟨.inl rfl, b, hb, by rw [S4.has_and, hsb, hx]; rfl⟩⟩
    · have hx' : x.has b = false := by simpa using hx
      refine ⟨s.and x.not, ?_, by rw [S4.has_and, S4.has_not, hsb, hx']; rfl⟩
      exact List.mem_flatMap.2 ⟨s, hs, (mem_cutOne _ _ _).2 ⟨.inr rfl, b, hb, by rw [S4.has_and, S4.has_not, hsb, hx']; rfl⟩⟩
  · intro s hs
    obtain ⟨t, _, ht2⟩ := List.mem_flatMap.1 hs
    exact ((mem_cutOne _ _ _).1 ht2).2
  · intro s hs a b ha hb hsa
    obtain ⟨t, ht, ht2⟩ := List.mem_flatMap.1 hs
    have hl := h.like t ht a b ha hb
    rw [alike_snoc]
    rcases ((mem_cutOne _ _ _).1 ht2).1 with rfl | rfl
    · rw [S4.has_and] at hsa ⊢
      revert hsa hl
      cases t.has a <;> cases t.has b <;> cases x.has a <;> cases x.has b <;> cases alike l a b <;> simp
    · rw [S4.has_and, S4.has_not] at hsa ⊢
      revert hsa hl
      cases t.has a <;> cases t.has b <;> cases x.has a <;> cases x.has b <;> cases alike l a b <;> simp
theorem parted_fold (l : List S4) : ∀ (l0 sets : List S4), Parted l0 sets → Parted (l0 ++ l) (l.foldl cutStep sets) := by
  induction l with
  | nil => intro l0 sets h; simpa using h
  | cons x l ih =>
    intro l0 sets h
    have := ih (l0 ++ [x]) (cutStep sets x) (parted_step h x)
    simpa using this
theorem parted (l : List S4) : Parted l (cutSets l) := parted_fold l [] _ parted_nil

theorem countP_or (p q : Nat → Bool) (l : List Nat) (h : ∀ b, b ∈ l → ¬ (p b = true ∧ q b = true)) : l.countP (fun b => p b || q b) = l.countP p + l.countP q := by
  induction l with
  | nil => rfl
  | cons a l ih =>
    have hi := ih fun b hb => h b (List.mem_cons_of_mem _ hb)
    have ha := h a List.mem_cons_self
    simp only [List.countP_cons, hi]
    cases hp : p a <;> cases hq : q a <;> simp_all <;> omega
theorem count_many (sets : List S4) (h1 : sets.Pairwise fun s t => ∀ b, b < 256 → ¬ (s.has b = true ∧ t.has b = true)) (h2 : ∀ s, s ∈ sets → ∃ b, b < 256 ∧ s.has b = true) :
    sets.length ≤ (List.range 256).countP fun b => sets.any fun s => s.has b := by
  induction sets with
  | nil => simp
  | cons s r ih =>
    rw [List.pairwise_cons] at h1
    have hi := ih h1.2 fun t ht => h2 t (List.mem_cons_of_mem _ ht)
    have hs : 0 < (List.range 256).countP s.has := by
      rw [← S4.count_eq, S4.count_pos]; exact h2 s List.mem_cons_self
    have := countP_or s.has (fun b => r.any fun t => t.has b) (List.range 256) (fun b hb hh => by
      obtain ⟨t, ht, htb⟩ := List.any_eq_true.1 hh.2
      exact h1.1 t ht b (List.mem_range.1 hb) ⟨hh.1, htb⟩)
    simp only [List.any_cons, List.length_cons]
    rw [this]
    omega
theorem parted_len {l sets : List S4} (h : Parted l sets) : sets.length ≤ 256 := by
  have := count_many sets h.apart h.some
  have h2 : (List.range 256).countP (fun b => sets.any fun s => s.has b) ≤ 256 := by
    have := List.countP_le_length (p := fun b => sets.any fun s => s.has b) (l := List.range 256)
    simpa using this
  omega
/-- Of each byte the last one of some sets that it is in. -/
def ofGo : List S4 → Nat → (Nat → Nat) → Nat → Nat
  | [], _, f => f
  | s :: r, i, f => ofGo r (i + 1) fun b => if s.has b then i else f b
def ofFn (sets : List S4) : Nat → Nat := ofGo sets 0 fun _ => 0
theorem ofGo_spec (sets : List S4) : ∀ (i : Nat) (f : Nat → Nat) (b : Nat), b < 256 → sets.Pairwise (fun s t => ∀ b, b < 256 → ¬ (s.has b = true ∧ t.has b = true)) →
    (∀ (k : Nat) (s : S4), sets[k]? = some s → s.has b = true → ofGo sets i f b = i + k) ∧ ((∀ s, s ∈ sets → s.has b = false) → ofGo sets i f b = f b) := by
  induction sets with
  | nil => intro i f b _ _; exact ⟨by simp, fun _ => rfl⟩
  | cons t r ih =>
    intro i f b hb hp
    rw [List.pairwise_cons] at hp
    obtain ⟨h1, h2⟩ := ih (i + 1) (fun b => if t.has b then i else f b) b hb hp.2
    refine ⟨?_, ?_⟩
    · intro k s hk hs
      cases k with
      | zero =>
        simp at hk; subst hk
        show ofGo r (i + 1) _ b = _
        rw [h2 ?_]
        · simp [hs]
        · intro u hu
          have := hp.1 u hu b hb
          simpa [hs] using this
      | succ k =>
        have := h1 k s (by simpa using hk) hs
        show ofGo r (i + 1) _ b = _
        omega
    · intro h
      show ofGo r (i + 1) _ b = _
      rw [h2 fun s hs => h s (List.mem_cons_of_mem _ hs)]
      simp [h t List.mem_cons_self]
theorem ofFn_spec {l sets : List S4} (h : Parted l sets) (b : Nat) (hb : b < 256) : ∃ s, sets[ofFn sets b]? = some s ∧ s.has b = true := by
  obtain ⟨s, hs, hsb⟩ := h.all b hb
  obtain ⟨k, hk⟩ := List.mem_iff_getElem?.1 hs
  have := (ofGo_spec sets 0 (fun _ => 0) b hb h.apart).1 k s hk hsb
  refine ⟨s, ?_, hsb⟩
  show sets[ofGo sets 0 (fun _ => 0) b]? = _
  rw [this, Nat.zero_add]; exact hk
theorem ofFn_like {l sets : List S4} (h : Parted l sets) (a b : Nat) (ha : a < 256) (hb : b < 256) : ofFn sets a = ofFn sets b ↔ alike l a b = true := by
  obtain ⟨s, hs, hsa⟩ := ofFn_spec h a ha
  obtain ⟨t, ht, htb⟩ := ofFn_spec h b hb
  have hl := h.like s (List.mem_of_getElem? hs) a b ha hb hsa
  constructor
  · intro e
    rw [e, ht] at hs
    cases hs
    exact hl.1 htb
  · intro e
    have hsb := hl.2 e
    have h1 := (ofGo_spec sets 0 (fun _ => 0) b hb h.apart).1 _ s hs hsb
    unfold ofFn at h1 ⊢
    omega

theorem idxOf_app {x : Nat} {l : List Nat} (h : x ∈ l) (r : List Nat) : (l ++ r).idxOf x = l.idxOf x := by rw [List.idxOf_append, if_pos h]
/-- The first ones of their kind. -/
def firsts (f : Nat → Nat) : Nat → List Nat
  | 0 => []
  | n + 1 => if f n ∈ firsts f n then firsts f n else firsts f n ++ [f n]
theorem firsts_succ (f : Nat → Nat) (n : Nat) : firsts f (n + 1) = if f n ∈ firsts f n then firsts f n else firsts f n ++ [f n] := rfl
theorem mem_firsts (f : Nat → Nat) (n x : Nat) : x ∈ firsts f n ↔ ∃ a, a < n ∧ f a = x := by
  induction n with
  | zero => simp [firsts]
  | succ n ih =>
    rw [firsts_succ]
    split
    · rename_i h
      rw [ih]
      constructor
      · rintro ⟨a, ha, h⟩; exact ⟨a, by omega, h⟩
      · rintro ⟨a, ha, hx⟩
        by_cases e : a = n
        · subst e; subst hx; exact ih.1 h
        · exact ⟨a, by omega, hx⟩
    · rw [List.mem_append, ih, List.mem_singleton]
      constructor
      · rintro (⟨a, ha, h⟩ | rfl)
        · exact ⟨a, by omega, h⟩
        · exact ⟨n, by omega, rfl⟩
      · rintro ⟨a, ha, hx⟩
        by_cases e : a = n
        · subst e; exact .inr hx.symm
        · exact .inl ⟨a, by omega, hx⟩
theorem nodup_firsts (f : Nat → Nat) (n : Nat) : (firsts f n).Nodup := by
  induction n with
  | zero => simp [firsts]
  | succ n ih =>
    rw [firsts_succ]
    split
    · exact ih
    · rename_i h
      rw [List.nodup_append]
      exact ⟨ih, by simp, by intro a ha b hb e; simp at hb; subst hb; subst e; exact h ha⟩
theorem idx_firsts_mono (f : Nat → Nat) (n m a : Nat) (h : n ≤ m) (ha : a < n) : (firsts f m).idxOf (f a) = (firsts f n).idxOf (f a) := by
  induction m with
  | zero => omega
  | succ m ih =>
    by_cases e : n = m + 1
    · subst e; rfl
    · rw [firsts_succ]
      split
      · exact ih (by omega)
      · rw [idxOf_app ((mem_firsts f m _).2 ⟨a, by omega, rfl⟩)]
        exact ih (by omega)
theorem length_firsts_le (f : Nat → Nat) (n : Nat) : (firsts f n).length ≤ n := by
  induction n with
  | zero => simp [firsts]
  | succ n ih =>
    rw [firsts_succ]
    split
    · omega
    · rw [List.length_append, List.length_singleton]; omega
def num (f : Nat → Nat) (b : Nat) : Nat := (firsts f 256).idxOf (f b)
theorem num_lt (f : Nat → Nat) (b : Nat) (hb : b < 256) : num f b < (firsts f 256).length := by
  unfold num; generalize 256 = n at *
  exact List.idxOf_lt_length_of_mem ((mem_firsts f n _).2 ⟨b, hb, rfl⟩)
theorem idx_get (f : Nat → Nat) (n b : Nat) (hb : b < n) : (firsts f n)[(firsts f n).idxOf (f b)]? = some (f b) := by
  rw [List.getElem?_eq_getElem (List.idxOf_lt_length_of_mem ((mem_firsts f n _).2 ⟨b, hb, rfl⟩))]
  exact congrArg some (List.getElem_idxOf _)
theorem num_get (f : Nat → Nat) (b : Nat) (hb : b < 256) : (firsts f 256)[num f b]? = some (f b) := idx_get f 256 b hb
theorem num_inj (f : Nat → Nat) (a b : Nat) (ha : a < 256) (hb : b < 256) : num f a = num f b ↔ f a = f b := by
  constructor
  · intro h
    have h1 := num_get f a ha
    have h2 := num_get f b hb
    have h3 : (firsts f 256)[num f a]? = (firsts f 256)[num f b]? := congrArg (fun k => (firsts f 256)[k]?) h
    exact Option.some.inj (h1.symm.trans (h3.trans h2))
  · intro h; exact congrArg (fun k => (firsts f 256).idxOf k) h
theorem firsts_same (f g : Nat → Nat) (n : Nat) (hn : n ≤ 256) (h : ∀ a b, a < 256 → b < 256 → (f a = f b ↔ g a = g b)) :
    (firsts f n).length = (firsts g n).length ∧ ∀ a, a < n → (firsts f n).idxOf (f a) = (firsts g n).idxOf (g a) := by
  induction n with
  | zero => exact ⟨rfl, fun a ha => absurd ha (by omega)⟩
  | succ n ih =>
    obtain ⟨h1, h2⟩ := ih (by omega)
    have hm : f n ∈ firsts f n ↔ g n ∈ firsts g n := by
      rw [mem_firsts, mem_firsts]
      constructor
      · rintro ⟨a, ha, e⟩; exact ⟨a, ha, (h a n (by omega) (by omega)).1 e⟩
      · rintro ⟨a, ha, e⟩; exact ⟨a, ha, (h a n (by omega) (by omega)).2 e⟩
    rw [firsts_succ, firsts_succ]
    by_cases hf : f n ∈ firsts f n
    · rw [if_pos hf, if_pos (hm.1 hf)]
      refine ⟨h1, fun a ha => ?_⟩
      by_cases e : a = n
      · subst e
        obtain ⟨c, hc, hcf⟩ := (mem_firsts f a _).1 hf
        rw [← hcf, h2 c hc, (h c a (by omega) (by omega)).1 hcf]
      · exact h2 a (by omega)
    · have hg : ¬ g n ∈ firsts g n := fun x => hf (hm.2 x)
      rw [if_neg hf, if_neg hg]
      refine ⟨by simp [h1], fun a ha => ?_⟩
      by_cases e : a = n
      · subst e
        rw [List.idxOf_append, if_neg hf, List.idxOf_append, if_neg hg, h1]; simp
      · rw [idxOf_app ((mem_firsts f n _).2 ⟨a, by omega, rfl⟩) _, idxOf_app ((mem_firsts g n _).2 ⟨a, by omega, rfl⟩) _]
        exact h2 a (by omega)
theorem num_same (f g : Nat → Nat) (h : ∀ a b, a < 256 → b < 256 → (f a = f b ↔ g a = g b)) (b : Nat) (hb : b < 256) : num f b = num g b := (firsts_same f g 256 (Nat.le_refl _) h).2 b hb

/-- The classes' numbers and their sets, cut by l. -/
def remapOf (l : List S4) (b : Nat) : Nat := num (ofFn (cutSets l)) b
def setsOf (l : List S4) : List S4 := (firsts (ofFn (cutSets l)) 256).map fun i => (cutSets l).getD i S4.zero
theorem length_setsOf (l : List S4) : (setsOf l).length = (firsts (ofFn (cutSets l)) 256).length := List.length_map _
theorem remap_lt (l : List S4) (b : Nat) (hb : b < 256) : remapOf l b < (setsOf l).length := by rw [length_setsOf]; exact num_lt _ b hb
theorem setsOf_le (l : List S4) : (setsOf l).length ≤ 256 := by rw [length_setsOf]; exact length_firsts_le _ _
theorem remap_like (l : List S4) (a b : Nat) (ha : a < 256) (hb : b < 256) : remapOf l a = remapOf l b ↔ alike l a b = true := by
  unfold remapOf
  rw [num_inj _ a b ha hb]
  exact ofFn_like (parted l) a b ha hb
/-- A class's set holds just the bytes of that number. -/
theorem has_setsOf (l : List S4) (c : Nat) (s : S4) (hc : (setsOf l)[c]? = some s) (b : Nat) (hb : b < 256) : s.has b = true ↔ remapOf l b = c := by
  have hp := parted l
  unfold setsOf at hc
  rw [List.getElem?_map] at hc
  obtain ⟨i, hi, hs⟩ := Option.map_eq_some_iff.1 hc
  obtain ⟨a, ha, hai⟩ := (mem_firsts _ 256 _).1 (List.mem_of_getElem? hi)
  obtain ⟨t, ht, hta⟩ := ofFn_spec hp a ha
  rw [hai] at ht
  rw [List.getD_eq_getElem?_getD, ht] at hs
  have hs' : t = s := hs
  subst hs'
  have hrm : remapOf l a = c := by
    obtain ⟨l2, e2⟩ := List.getElem?_eq_some_iff.1 hi
    unfold remapOf num
    rw [hai, ← e2]
    exact List.Nodup.idxOf_getElem (nodup_firsts (ofFn (cutSets l)) 256) c l2
  rw [hp.like t (List.mem_of_getElem? ht) a b ha hb hta, ← remap_like l a b ha hb, hrm]
  exact ⟨fun h => h.symm, fun h => h.symm⟩
theorem some_setsOf (l : List S4) (c : Nat) (hc : c < (setsOf l).length) : ∃ b, b < 256 ∧ remapOf l b = c := by
  rw [length_setsOf] at hc
  have hg : (firsts (ofFn (cutSets l)) 256)[c]? = some _ := List.getElem?_eq_getElem hc
  obtain ⟨a, ha, hai⟩ := (mem_firsts _ 256 _).1 (List.getElem_mem hc)
  refine ⟨a, ha, ?_⟩
  unfold remapOf num
  rw [hai]
  exact List.Nodup.idxOf_getElem (nodup_firsts (ofFn (cutSets l)) 256) c hc
/-- Two lists by which the same bytes are alike have the same numbers, and as many. -/
theorem remap_same (l m : List S4) (h : ∀ a b, a < 256 → b < 256 → (alike l a b = true ↔ alike m a b = true)) :
    (∀ b, b < 256 → remapOf l b = remapOf m b) ∧ (setsOf l).length = (setsOf m).length := by
  have h' : ∀ a b, a < 256 → b < 256 → (ofFn (cutSets l) a = ofFn (cutSets l) b ↔ ofFn (cutSets m) a = ofFn (cutSets m) b) := by
    intro a b ha hb
    rw [ofFn_like (parted l) a b ha hb, ofFn_like (parted m) a b ha hb]
    exact h a b ha hb
  refine ⟨num_same _ _ h', ?_⟩
  rw [length_setsOf, length_setsOf]
  exact (firsts_same _ _ 256 (Nat.le_refl _) h').1

/-- The reference's numbers: those of the bytes below b, and how many there are. -/
def refGo (l : List S4) : Nat → List Nat × Nat
  | 0 => ([], 0)
  | b + 1 => match (List.range b).find? fun a => alike l a b with
    | some a => ((refGo l b).1 ++ [(refGo l b).1.getD a 0], (refGo l b).2)
    | none => ((refGo l b).1 ++ [(refGo l b).2], (refGo l b).2 + 1)
theorem refGo_spec (l : List S4) (f : Nat → Nat) (h : ∀ a b, a < 256 → b < 256 → (f a = f b ↔ alike l a b = true)) (n : Nat) (hn : n ≤ 256) :
    (refGo l n).1.length = n ∧ (refGo l n).2 = (firsts f n).length ∧ ∀ a, a < n → (refGo l n).1.getD a 0 = (firsts f n).idxOf (f a) := by
  induction n with
  | zero => exact ⟨rfl, rfl, fun a ha => absurd ha (by omega)⟩
  | succ n ih =>
    obtain ⟨h1, h2, h3⟩ := ih (by omega)
    unfold refGo
    rw [firsts_succ]
    cases hfind : (List.range n).find? fun a => alike l a n with
    | some a =>
      have ha1 : alike l a n = true := List.find?_some (p := fun a => alike l a n) hfind
      have ha2 : a < n := List.mem_range.1 (List.mem_of_find?_eq_some hfind)
      have e : f a = f n := (h a n (by omega) (by omega)).2 ha1
      have hm : f n ∈ firsts f n := (mem_firsts f n _).2 ⟨a, ha2, e⟩
      rw [if_pos hm]
      refine ⟨by simp [h1], h2, fun c hc => ?_⟩
      simp only [List.getD_eq_getElem?_getD]
      by_cases ec : c = n
      · subst ec
        rw [List.getElem?_append_right (by omega), h1, Nat.sub_self]
        have := h3 a ha2
        simp only [List.getD_eq_getElem?_getD] at this
        simp [this, e]
      · rw [List.getElem?_append_left (by omega)]
        have := h3 c (by omega)
        simpa only [List.getD_eq_getElem?_getD] using this
    | none =>
      have hm : ¬ f n ∈ firsts f n := by
        rw [mem_firsts]
        rintro ⟨a, ha, e⟩
        have := List.find?_eq_none.1 hfind a (List.mem_range.2 ha)
        exact this ((h a n (by omega) (by omega)).1 e)
      rw [if_neg hm]
      refine ⟨by simp [h1], by simp [h2], fun c hc => ?_⟩
      simp only [List.getD_eq_getElem?_getD]
      by_cases ec : c = n
      · subst ec
        rw [List.getElem?_append_right (by omega), h1, Nat.sub_self, List.idxOf_append, if_neg hm]
        simp [h2]
      · rw [List.getElem?_append_left (by omega), idxOf_app ((mem_firsts f n _).2 ⟨c, by omega, rfl⟩)]
        have := h3 c (by omega)
        simpa only [List.getD_eq_getElem?_getD] using this
theorem refGo_remap (l : List S4) : (refGo l 256).1.length = 256 ∧ (refGo l 256).2 = (setsOf l).length ∧ ∀ b, b < 256 → (refGo l 256).1.getD b 0 = remapOf l b := by
  obtain ⟨h1, h2, h3⟩ := refGo_spec l _ (fun a b ha hb => ofFn_like (parted l) a b ha hb) 256 (Nat.le_refl _)
  exact ⟨h1, by rw [h2, length_setsOf], h3⟩
end Go.Proofs.YtccbfcnnbdgcgaaDoor
