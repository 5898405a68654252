/- Plain facts on cutting by one set more, in another order, twice, by nots, by the classes themselves. -/
import Derived.Test.YtccbfcnnbdgcgaaDoorPlain
namespace Go.Proofs.YtccbfcnnbdgcgaaDoor
theorem firsts_finer (f g : Nat → Nat) (n : Nat) (h : ∀ a b, a < n → b < n → f a = f b → g a = g b) : (firsts g n).length ≤ (firsts f n).length := by
  induction n with
  | zero => simp [firsts]
  | succ n ih =>
    have ih' := ih fun a b ha hb => h a b (by omega) (by omega)
    rw [firsts_succ, firsts_succ]
    by_cases hf : f n ∈ firsts f n
    · obtain ⟨a, ha, e⟩ := (mem_firsts f n _).1 hf
      have hg : g n ∈ firsts g n := (mem_firsts g n _).2 ⟨a, ha, h a n (by omega) (by omega) e⟩
      rw [if_pos hf, if_pos hg]; exact ih'
    · rw [if_neg hf]
      split
      · simp; omega
      · simp; omega
theorem setsOf_finer (l m : List S4) (h : ∀ a b, a < 256 → b < 256 → alike m a b = true → alike l a b = true) : (setsOf l).length ≤ (setsOf m).length := by
  rw [length_setsOf, length_setsOf]
  exact firsts_finer _ _ _ fun a b ha hb e => (ofFn_like (parted l) a b ha hb).2 (h a b ha hb ((ofFn_like (parted m) a b ha hb).1 e))
theorem alike_app (l m : List S4) (a b : Nat) : alike (l ++ m) a b = (alike l a b && alike m a b) := by simp [alike]
theorem setsOf_more (l : List S4) (t : S4) : (setsOf l).length ≤ (setsOf (l ++ [t])).length :=
  setsOf_finer _ _ fun a b _ _ h => by rw [alike_app, Bool.and_eq_true] at h; exact h.1
theorem remap_front (l : List S4) (t : S4) (b : Nat) (hb : b < 256) : remapOf (l ++ [t]) b = remapOf (t :: l) b :=
  (remap_same (l ++ [t]) (t :: l) fun a b _ _ => by rw [alike_app, show t :: l = [t] ++ l from rfl, alike_app, Bool.and_comm]).1 b hb
theorem remap_twice (l : List S4) (b : Nat) (hb : b < 256) : remapOf (l ++ l) b = remapOf l b :=
  (remap_same (l ++ l) l fun a b _ _ => by rw [alike_app, Bool.and_self]).1 b hb
theorem remap_nots (l : List S4) (b : Nat) (hb : b < 256) : remapOf (l.map S4.not) b = remapOf l b :=
  (remap_same (l.map S4.not) l fun a b _ _ => by rw [alike_iff, alike_iff]; simp [S4.has_not]).1 b hb
theorem remap_classes (l : List S4) (b : Nat) (hb : b < 256) : remapOf (setsOf l) b = remapOf l b := by
  refine (remap_same (setsOf l) l fun a b ha hb => ?_).1 b hb
  rw [alike_iff, ← remap_like l a b ha hb]
  constructor
  · intro h
    have hlt := remap_lt l a ha
    have hat := List.getElem?_eq_getElem hlt
    have h1 := h _ (List.getElem_mem hlt)
    have h2 := (has_setsOf l _ _ hat a ha).2 rfl
    rw [h1] at h2
    exact ((has_setsOf l _ _ hat b hb).1 h2).symm
  · intro h s hs
    obtain ⟨c, hc, rfl⟩ := List.getElem_of_mem hs
    have hat := List.getElem?_eq_getElem hc
    rw [Bool.eq_iff_iff, has_setsOf l c _ hat a ha, has_setsOf l c _ hat b hb, h]
/-- A class of the finer cut lies in the coarser class of any of its bytes. -/
theorem class_in (l : List S4) (t : S4) (c b k : Nat) (s u : S4) (hs : (setsOf (l ++ [t]))[c]? = some s) (hb : b < 256) (hsb : s.has b = true) (hk : remapOf l b = k) (hu : (setsOf l)[k]? = some u) : s.and u = s := by
  apply S4.ext_has
  intro x hx
  rw [S4.has_and]
  cases hsx : s.has x with
  | false => simp
  | true =>
    have h1 := (has_setsOf _ c s hs b hb).1 hsb
    have h2 := (has_setsOf _ c s hs x hx).1 hsx
    have h3 := (remap_like (l ++ [t]) x b hx hb).1 (by rw [h1, h2])
    rw [alike_app, Bool.and_eq_true] at h3
    have h4 := (remap_like l x b hx hb).2 h3.1
    simp [(has_setsOf l k u hu x hx).2 (h4.trans hk)]
end Go.Proofs.YtccbfcnnbdgcgaaDoor
