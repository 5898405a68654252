/- Plain facts on the classes that lie in a set, and on two classes' least bytes. -/
import Derived.Test.YtccbfcnnbdgcgaaDoorTell
namespace Go.Proofs.YtccbfcnnbdgcgaaDoor
def sumC (ss : List S4) (cs : List Nat) (n : Nat) : S4 := (cs.take n).foldl (fun s (c : Nat) => s.or (ofClass ss (c : Int))) S4.zero
theorem sumC_succ (ss : List S4) (cs : List Nat) (n : Nat) (h : n < cs.length) : sumC ss cs (n + 1) = (sumC ss cs n).or (ofClass ss (cs[n] : Int)) := by
  unfold sumC
  rw [List.take_succ_eq_append_getElem h, List.foldl_append]; rfl
theorem has_fold (ss : List S4) (b : Nat) : ∀ (cs : List Nat) (s : S4), (cs.foldl (fun s (c : Nat) => s.or (ofClass ss (c : Int))) s).has b = true ↔ s.has b = true ∨ ∃ c, c ∈ cs ∧ (ofClass ss (c : Int)).has b = true := by
  intro cs
  induction cs with
  | nil => intro s; simp
  | cons c cs ih =>
    intro s
    rw [List.foldl_cons, ih, S4.has_or, Bool.or_eq_true]
    constructor
    · rintro ((h | h) | ⟨d, hd, h⟩)
      · exact .inl h
      · exact .inr ⟨c, List.mem_cons_self, h⟩
      · exact .inr ⟨d, List.mem_cons_of_mem _ hd, h⟩
    · rintro (h | ⟨d, hd, h⟩)
      · exact .inl (.inl h)
      · rcases List.mem_cons.1 hd with rfl | hd
        · exact .inl (.inr h)
        · exact .inr ⟨d, hd, h⟩
theorem in_zero (s a : S4) : s.and a.not = S4.zero ↔ ∀ b, b < 256 → s.has b = true → a.has b = true := by
  constructor
  · intro h b _ hs
    have := congrArg (fun x => x.has b) h
    simp only [S4.has_and, S4.has_not, S4.has_zero, hs, Bool.true_and] at this
    simpa using this
  · intro h
    apply S4.ext_has
    intro b hb
    rw [S4.has_and, S4.has_not, S4.has_zero]
    cases hs : s.has b with
    | false => rfl
    | true => rw [h b hb hs]; rfl
theorem sumC_all (l : List S4) (a : S4) (ha : a ∈ l) : sumC (setsOf l) (classesIn (setsOf l) a) (classesIn (setsOf l) a).length = a := by
  unfold sumC
  rw [List.take_length]
  apply S4.ext_has
  intro b hb
  rw [Bool.eq_iff_iff, has_fold, S4.has_zero]
  constructor
  · rintro (h | ⟨c, hc, h⟩)
    · cases h
    · unfold classesIn at hc
      rw [List.mem_filter] at hc
      obtain ⟨hc1, hc2⟩ := hc
      have hcl := List.mem_range.1 hc1
      have hz : ((setsOf l).getD c S4.zero).and a.not = S4.zero := by simpa using hc2
      have e : ofClass (setsOf l) (c : Int) = (setsOf l).getD c S4.zero := by unfold ofClass; rw [if_neg (by omega), Int.toNat_natCast]
      rw [e] at h
      exact (in_zero _ _).1 hz b hb h
  · intro h
    refine .inr ⟨remapOf l b, ?_, ?_⟩
    · unfold classesIn
      rw [List.mem_filter]
      refine ⟨List.mem_range.2 (remap_lt l b hb), ?_⟩
      have hat := List.getElem?_eq_getElem (remap_lt l b hb)
      have hz : ((setsOf l).getD (remapOf l b) S4.zero).and a.not = S4.zero := by
        rw [in_zero]
        intro x hx hs
        rw [List.getD_eq_getElem?_getD, hat] at hs
        have h1 := (has_setsOf l _ _ hat x hx).1 hs
        have h2 := (alike_iff l x b).1 ((remap_like l x b hx hb).1 h1) a ha
        rw [h2]; exact h
      simpa using hz
    · have hat := List.getElem?_eq_getElem (remap_lt l b hb)
      rw [ofClass_at hat]
      exact (has_setsOf l _ _ hat b hb).2 rfl
theorem classesIn_lt (l : List S4) (a : S4) (n : Nat) (h : n < (classesIn (setsOf l) a).length) : (classesIn (setsOf l) a)[n] < (setsOf l).length := by
  have := List.getElem_mem h
  unfold classesIn at this
  rw [List.mem_filter] at this
  exact List.mem_range.1 this.1
theorem classesIn_le (l : List S4) (a : S4) : (classesIn (setsOf l) a).length ≤ 256 := by
  unfold classesIn
  refine Nat.le_trans (List.length_filter_le _ _) ?_
  rw [List.length_range]; exact setsOf_le l
/-- Two classes' least bytes are told apart. -/
theorem told_of (l : List S4) (i j : Nat) (hi : i < (setsOf l).length) (hj : j < i) : ∃ (x y : Nat), x < 256 ∧ y < 256 ∧ sampleB (ofClass (setsOf l) (i : Int)) = x ∧ sampleB (ofClass (setsOf l) (j : Int)) = y ∧ alike l x y = false := by
  obtain ⟨x, s, hx, hof, hsm, _, hre, _, _⟩ := sample_of l i hi
  obtain ⟨y, t, hy, hof2, hsm2, _, hre2, _, _⟩ := sample_of l j (by omega)
  refine ⟨x, y, hx, hy, by rw [hof]; exact hsm, by rw [hof2]; exact hsm2, ?_⟩
  cases h : alike l x y with
  | false => rfl
  | true => have := (remap_like l x y hx hy).2 h; omega
end Go.Proofs.YtccbfcnnbdgcgaaDoor
