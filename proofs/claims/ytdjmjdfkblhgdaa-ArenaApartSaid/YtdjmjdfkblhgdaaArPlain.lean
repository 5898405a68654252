/- An arena in plain words: regions, what is handed out, what is taken back. No program. -/
namespace Go.Proofs.Ytdjmjdfkblhgdaa
structure Reg where
  id : Nat
  base : Nat
  n : Nat
deriving DecidableEq
structure Mt where
  used : Nat
  most : Nat
  cells : Nat
  done : Nat
  steps : Nat
  e : Nat
structure PA where
  size : Nat
  cells : List Int
  regs : List Reg
  last : Nat
  left : Nat
  mt : Option Mt
abbrev BN := Nat × Nat
def bns (rs : List Reg) : List BN := rs.map fun r => (r.base, r.n)
def byBase (x y : BN) : Bool := decide (x.1 ≤ y.1)
def rowsP (rs : List Reg) : List BN := (bns rs).mergeSort byBase
def Apart (x y : BN) : Prop := x.1 + x.2 ≤ y.1 ∨ y.1 + y.2 ≤ x.1
theorem Apart.symm {x y : BN} (h : Apart x y) : Apart y x := h.elim .inr .inl
def total (rs : List Reg) : Nat := (rs.map (·.n)).sum
structure WF (S : PA) : Prop where
  len : S.cells.length = S.size
  sz : S.size ≤ 1048576
  pos : ∀ r, r ∈ S.regs → 1 ≤ r.n ∧ r.base + r.n ≤ S.size
  apart : S.regs.Pairwise fun x y => Apart (x.base, x.n) (y.base, y.n)
  ids : (S.regs.map (·.id)).Nodup
  le : ∀ r, r ∈ S.regs → 1 ≤ r.id ∧ r.id ≤ S.last
  lft : S.left + total S.regs = S.size
  zero : ∀ i, i < S.size → (∀ r, r ∈ S.regs → ¬ (r.base ≤ i ∧ i < r.base + r.n)) → S.cells[i]? = some 0
  mtr : ∀ m, S.mt = some m → m.used = total S.regs ∧ m.cells ≤ 1048576
theorem byBase_trans (a b c : BN) (h1 : byBase a b = true) (h2 : byBase b c = true) : byBase a c = true := by
  simp only [byBase, decide_eq_true_eq] at *; omega
theorem byBase_total (a b : BN) : (byBase a b || byBase b a) = true := by
  simp only [byBase, Bool.or_eq_true, decide_eq_true_eq]; omega
theorem rowsP_perm (rs : List Reg) : (rowsP rs).Perm (bns rs) := List.mergeSort_perm _ _
theorem rowsP_sorted (rs : List Reg) : (rowsP rs).Pairwise fun a b => byBase a b = true := List.pairwise_mergeSort byBase_trans byBase_total _
theorem mem_rowsP {rs : List Reg} {x : BN} : x ∈ rowsP rs ↔ ∃ r, r ∈ rs ∧ (r.base, r.n) = x := by rw [(rowsP_perm rs).mem_iff]; simp [bns]
theorem WF.bns_apart {S : PA} (h : WF S) : (bns S.regs).Pairwise Apart := by unfold bns; rw [List.pairwise_map]; exact h.apart
/-- In a sorted row each region ends where the next ones begin, or before. -/
theorem WF.rows_rise {S : PA} (h : WF S) {l : List BN} (hp : l.Perm (bns S.regs)) (hs : l.Pairwise fun a b => byBase a b = true) : l.Pairwise fun x y => x.1 + x.2 ≤ y.1 := by
  have ha : l.Pairwise Apart := h.bns_apart.perm hp.symm Apart.symm
  refine (hs.and ha).imp_of_mem fun {a b} hma hmb hab => ?_
  obtain ⟨h1, h2⟩ := hab
  have hb : 1 ≤ b.2 := by
    have := (hp.mem_iff).1 hmb
    simp only [bns, List.mem_map] at this
    obtain ⟨r, hr, rfl⟩ := this
    exact (h.pos r hr).1
  simp only [byBase, decide_eq_true_eq] at h1
  rcases h2 with h2 | h2 <;> omega
/-- There is one sorted row alone. -/
theorem WF.rows_one {S : PA} (h : WF S) {l : List BN} (hp : l.Perm (bns S.regs)) (hs : l.Pairwise fun a b => byBase a b = true) : l = rowsP S.regs := by
  have hr := h.rows_rise hp hs
  have hr' := h.rows_rise (rowsP_perm S.regs) (rowsP_sorted S.regs)
  refine List.Perm.eq_of_pairwise (le := fun x y => x.1 + x.2 ≤ y.1) (fun a b ha hb h1 h2 => ?_) hr hr' (hp.trans (rowsP_perm _).symm)
  have hn : 1 ≤ a.2 := by
    have := (hp.mem_iff).1 ha
    simp only [bns, List.mem_map] at this
    obtain ⟨r, hr, rfl⟩ := this
    exact (h.pos r hr).1
  omega
def gapP : List BN → Nat → Int → Nat → Option Nat
  | [], at_, n, size => if n ≤ (size : Int) - (at_ : Int) then some at_ else none
  | r :: rs, at_, n, size => if n ≤ (r.1 : Int) - (at_ : Int) then some at_ else gapP rs (r.1 + r.2) n size
theorem gap_spec (n : Nat) (_hn : 1 ≤ n) (size : Nat) : ∀ (rs : List BN) (a : Nat), a ≤ size → rs.Pairwise (fun x y => x.1 + x.2 ≤ y.1) → (∀ r, r ∈ rs → a ≤ r.1 ∧ 1 ≤ r.2 ∧ r.1 + r.2 ≤ size) →
    (∀ p, gapP rs a (n : Int) size = some p → a ≤ p ∧ p + n ≤ size ∧ (∀ r, r ∈ rs → Apart (p, n) r) ∧ (∀ q, a ≤ q → q < p → ∃ r, r ∈ rs ∧ ¬ Apart (q, n) r)) ∧
    (gapP rs a (n : Int) size = none → ∀ q, a ≤ q → q + n ≤ size → ∃ r, r ∈ rs ∧ ¬ Apart (q, n) r) := by
  intro rs
  induction rs with
  | nil =>
    intro a ha _ _
    constructor
    · intro p hp
      unfold gapP at hp
      split at hp
      · injection hp with hp; subst hp
        refine ⟨Nat.le_refl _, by omega, by simp, fun q h1 h2 => by omega⟩
      · cases hp
    · intro hp q h1 h2
      unfold gapP at hp
      split at hp
      · cases hp
      · omega
  | cons r rs ih =>
    intro a ha hs hb
    obtain ⟨hr1, hr2, hr3⟩ := hb r List.mem_cons_self
    rw [List.pairwise_cons] at hs
    have hi := ih (r.1 + r.2) hr3 hs.2 (fun x hx => ⟨hs.1 x hx, (hb x (List.mem_cons_of_mem _ hx)).2⟩)
    by_cases hfit : (n : Int) ≤ (r.1 : Int) - (a : Int)
    · have e : gapP (r :: rs) a (n : Int) size = some a := by unfold gapP; rw [if_pos hfit]
      rw [e]
      refine ⟨fun p hp => ?_, fun h => by cases h⟩
      injection hp with hp; subst hp
      refine ⟨Nat.le_refl _, by omega, fun x hx => ?_, fun q h1 h2 => by omega⟩
      rcases List.mem_cons.1 hx with rfl | hx
      · exact .inl (by simp; omega)
      · have := hs.1 x hx; exact .inl (by simp; omega)
    · have e : gapP (r :: rs) a (n : Int) size = gapP rs (r.1 + r.2) (n : Int) size := by rw [gapP, if_neg hfit]
      rw [e]
      have hnear : ∀ q, a ≤ q → q < r.1 + r.2 → ¬ Apart (q, n) r := by
        intro q h1 h2 h3
        rcases h3 with h3 | h3 <;> simp at h3 <;> omega
      constructor
      · intro p hp
        obtain ⟨h1, h2, h3, h4⟩ := hi.1 p hp
        refine ⟨by omega, h2, fun x hx => ?_, fun q hq1 hq2 => ?_⟩
        · rcases List.mem_cons.1 hx with rfl | hx
          · exact .inr (by simp; omega)
          · exact h3 x hx
        · by_cases hq : q < r.1 + r.2
          · exact ⟨r, List.mem_cons_self, hnear q hq1 hq⟩
          · obtain ⟨x, hx, h⟩ := h4 q (by omega) hq2
            exact ⟨x, List.mem_cons_of_mem _ hx, h⟩
      · intro hp q hq1 hq2
        by_cases hq : q < r.1 + r.2
        · exact ⟨r, List.mem_cons_self, hnear q hq1 hq⟩
        · obtain ⟨x, hx, h⟩ := hi.2 hp q (by omega) hq2
          exact ⟨x, List.mem_cons_of_mem _ hx, h⟩
/-- The first place at which n cells fit. -/
def gapOf (S : PA) (n : Int) : Option Nat := gapP (rowsP S.regs) 0 n S.size
theorem WF.gap {S : PA} (h : WF S) (n : Nat) (hn : 1 ≤ n) :
    (∀ p, gapOf S n = some p → p + n ≤ S.size ∧ (∀ r, r ∈ S.regs → Apart (p, n) (r.base, r.n)) ∧ (∀ q, q < p → ∃ r, r ∈ S.regs ∧ ¬ Apart (q, n) (r.base, r.n))) ∧
    (gapOf S n = none → ∀ q, q + n ≤ S.size → ∃ r, r ∈ S.regs ∧ ¬ Apart (q, n) (r.base, r.n)) := by
  have := gap_spec n hn S.size (rowsP S.regs) 0 (Nat.zero_le _) (h.rows_rise (rowsP_perm _) (rowsP_sorted _)) (fun x hx => by
    obtain ⟨r, hr, rfl⟩ := mem_rowsP.1 hx
    exact ⟨Nat.zero_le _, h.pos r hr⟩)
  refine ⟨fun p hp => ?_, fun hp q hq => ?_⟩
  · obtain ⟨_, h2, h3, h4⟩ := this.1 p hp
    refine ⟨h2, fun r hr => h3 _ (mem_rowsP.2 ⟨r, hr, rfl⟩), fun q hq => ?_⟩
    obtain ⟨x, hx, hx2⟩ := h4 q (Nat.zero_le _) hq
    obtain ⟨r, hr, rfl⟩ := mem_rowsP.1 hx
    exact ⟨r, hr, hx2⟩
  · obtain ⟨x, hx, hx2⟩ := this.2 hp q (Nat.zero_le _) hq
    obtain ⟨r, hr, rfl⟩ := mem_rowsP.1 hx
    exact ⟨r, hr, hx2⟩
/-- A gap is found for what fits alone. -/
theorem gapP_fits (n : Int) (size : Nat) : ∀ (rs : List BN) (a p : Nat), a ≤ size → (∀ r, r ∈ rs → r.1 + r.2 ≤ size) → gapP rs a n size = some p → p ≤ size ∧ n ≤ (size : Int) - (p : Int) := by
  intro rs
  induction rs with
  | nil =>
    intro a p ha _ h
    unfold gapP at h
    split at h
    · injection h with h; subst h; exact ⟨ha, by omega⟩
    · cases h
  | cons r rs ih =>
    intro a p ha hb h
    have hr := hb r List.mem_cons_self
    unfold gapP at h
    split at h
    · injection h with h; subst h; exact ⟨ha, by omega⟩
    · exact ih _ p hr (fun x hx => hb x (List.mem_cons_of_mem _ hx)) h
theorem WF.gap_fits {S : PA} (h : WF S) {n : Int} {p : Nat} (hp : gapOf S n = some p) : p ≤ S.size ∧ n ≤ (S.size : Int) - (p : Int) :=
  gapP_fits n S.size _ 0 p (Nat.zero_le _) (fun x hx => by obtain ⟨r, hr, rfl⟩ := mem_rowsP.1 hx; exact (h.pos r hr).2) hp
def mtTake (m : Mt) (n : Nat) : Mt := { m with used := m.used + n, most := max m.most (m.used + n) }
def mtRefuse (m : Mt) (e : Nat) : Mt := { m with e := if m.e = 0 then e else m.e }
def addReg (S : PA) (p n : Nat) (mt : Option Mt) : PA := { S with regs := S.regs ++ [⟨S.last + 1, p, n⟩], last := S.last + 1, left := S.left - n, mt := mt }
def allocP (S : PA) (n : Int) : Nat × Nat × PA :=
  if n < 1 then (0, 1, S) else
  match gapOf S n with
  | none => (0, 3, S)
  | some p =>
    match S.mt with
    | none => (S.last + 1, 0, addReg S p n.toNat none)
    | some m => if n ≤ (m.cells : Int) - (m.used : Int) then (S.last + 1, 0, addReg S p n.toNat (some (mtTake m n.toNat))) else (0, 3, { S with mt := some (mtRefuse m 3) })
def findP (S : PA) (id : Int) : Option Reg := S.regs.find? fun r => decide ((r.id : Int) = id)
def clearP (l : List Int) (b n : Nat) : List Int := l.take b ++ List.replicate n 0 ++ l.drop (b + n)
def freeReg (S : PA) (r : Reg) : PA := { S with cells := clearP S.cells r.base r.n, regs := S.regs.filter fun x => x.id ≠ r.id, left := S.left + r.n, mt := S.mt.map fun m => { m with used := m.used - r.n } }
def freeP (S : PA) (id : Int) : Nat × PA := match findP S id with
  | none => (7, S)
  | some r => (0, freeReg S r)
def cellP (S : PA) (id i : Int) : Nat × Nat := match findP S id with
  | none => (0, 7)
  | some r => if i < 0 ∨ (r.n : Int) ≤ i then (0, 2) else (r.base + i.toNat, 0)
def setP (S : PA) (id i v : Int) : Nat × PA := match cellP S id i with
  | (at_, 0) => (0, { S with cells := S.cells.set at_ v })
  | (_, e) => (e, S)
def getP (S : PA) (id i : Int) : Int × Nat := match cellP S id i with
  | (at_, 0) => (S.cells.getD at_ 0, 0)
  | (_, e) => (0, e)
def lenP (S : PA) (id : Int) : Int := match findP S id with
  | none => -1
  | some r => r.n
def baseP (S : PA) (id : Int) : Int := match findP S id with
  | none => -1
  | some r => r.base
def newP (size : Int) (mt : Option Mt) : PA :=
  let n := (min (max size 0) 1048576).toNat
  ⟨n, List.replicate n 0, [], 0, n, mt⟩
def wipeP (S : PA) : PA := { S with cells := List.replicate S.size 0, regs := [], left := S.size, mt := S.mt.map fun m => { m with used := 0 } }
theorem findP_mem {S : PA} {id : Int} {r : Reg} (h : findP S id = some r) : r ∈ S.regs ∧ (r.id : Int) = id := by
  unfold findP at h
  exact ⟨List.mem_of_find?_eq_some h, by have := List.find?_some h; simpa using this⟩
theorem findP_none {S : PA} {id : Int} : findP S id = none ↔ ∀ r, r ∈ S.regs → (r.id : Int) ≠ id := by unfold findP; simp
theorem total_append (a b : List Reg) : total (a ++ b) = total a + total b := by simp [total]
theorem newP_wf (size : Int) (mt : Option Mt) (hm : ∀ m, mt = some m → m.used = 0 ∧ m.cells ≤ 1048576) : WF (newP size mt) where
  len := by simp [newP]
  sz := by simp only [newP]; omega
  pos := by simp [newP]
  apart := by simp [newP]
  ids := by simp [newP]
  le := by simp [newP]
  lft := by simp [newP, total]
  zero := by intro i hi _; simp only [newP] at hi ⊢; simp [hi]
  mtr := by intro m h; simpa [newP, total] using hm m h
theorem total_le {S : PA} (h : WF S) : total S.regs ≤ S.size := by have := h.lft; omega
theorem addReg_wf {S : PA} (h : WF S) {p n : Nat} (hn : 1 ≤ n) (hp : p + n ≤ S.size) (ha : ∀ r, r ∈ S.regs → Apart (p, n) (r.base, r.n)) (hl : n ≤ S.left) (mt : Option Mt)
    (hm : ∀ m, mt = some m → m.used = total S.regs + n ∧ m.cells ≤ 1048576) : WF (addReg S p n mt) where
  len := h.len
  sz := h.sz
  pos := by
    intro r hr
    rcases List.mem_append.1 hr with hr | hr
    · exact h.pos r hr
    · rw [List.mem_singleton] at hr; subst hr; exact ⟨hn, hp⟩
  apart := by
    show (S.regs ++ [_]).Pairwise _
    rw [List.pairwise_append]
    refine ⟨h.apart, by simp, fun x hx y hy => ?_⟩
    rw [List.mem_singleton] at hy; subst hy
    exact (ha x hx).symm
  ids := by
    show ((S.regs ++ [_]).map _).Nodup
    rw [List.map_append, List.nodup_append]
    refine ⟨h.ids, by simp, ?_⟩
    intro a ha b hb e
    obtain ⟨r, hr, rfl⟩ := List.mem_map.1 ha
    have := (h.le r hr).2
    simp at hb
    omega
  le := by
    intro r hr
    rcases List.mem_append.1 hr with hr | hr
    · have := h.le r hr; exact ⟨this.1, Nat.le_succ_of_le this.2⟩
    · rw [List.mem_singleton] at hr; subst hr; exact ⟨Nat.le_add_left _ _, Nat.le_refl _⟩
  lft := by
    show S.left - n + total (S.regs ++ [_]) = S.size
    rw [total_append]
    have := h.lft
    simp only [total, List.map_cons, List.map_nil, List.sum_cons, List.sum_nil] at *
    omega
  zero := by
    intro i hi hno
    exact h.zero i hi fun r hr => hno r (List.mem_append_left _ hr)
  mtr := by
    intro m e
    have := hm m e
    refine ⟨?_, this.2⟩
    show m.used = total (S.regs ++ [_])
    rw [total_append, this.1]; simp [total]
theorem length_clearP (l : List Int) (b n : Nat) (h : b + n ≤ l.length) : (clearP l b n).length = l.length := by simp [clearP]; omega
theorem getElem?_clearP (l : List Int) (b n i : Nat) (h : b + n ≤ l.length) : (clearP l b n)[i]? = if b ≤ i ∧ i < b + n then some 0 else l[i]? := by
  unfold clearP
  by_cases h1 : i < b
  · rw [List.append_assoc, List.getElem?_append_left (by simp; omega), List.getElem?_take_of_lt h1, if_neg (by omega)]
  · by_cases h2 : i < b + n
    · rw [if_pos ⟨by omega, h2⟩, List.append_assoc, List.getElem?_append_right (by simp; omega), List.getElem?_append_left (by simp; omega)]
      rw [List.getElem?_replicate, if_pos (by simp; omega)]
    · rw [if_neg (by omega), List.getElem?_append_right (by simp; omega), List.getElem?_drop]
      congr 1
      simp; omega
theorem total_filter {rs : List Reg} (hn : (rs.map (·.id)).Nodup) {r : Reg} (hr : r ∈ rs) : total (rs.filter fun x => x.id ≠ r.id) + r.n = total rs := by
  induction rs with
  | nil => simp at hr
  | cons x rs ih =>
    rw [List.map_cons, List.nodup_cons] at hn
    rw [List.filter_cons]
    by_cases hx : x.id = r.id
    · have hxr : x = r := by
        rcases List.mem_cons.1 hr with h | h
        · exact h.symm
        · exact absurd (List.mem_map.2 ⟨r, h, hx.symm⟩) hn.1
      subst hxr
      have : (rs.filter fun y => y.id ≠ x.id) = rs := by
        rw [List.filter_eq_self]
        intro y hy
        simp only [ne_eq, decide_not, Bool.not_eq_true', decide_eq_false_iff_not]
        intro e
        exact hn.1 (List.mem_map.2 ⟨y, hy, e⟩)
      simp only [ne_eq, not_true_eq_false, decide_false, Bool.false_eq_true, if_false] at this ⊢
      rw [this]; simp [total]; omega
    · have hr' : r ∈ rs := by
        rcases List.mem_cons.1 hr with h | h
        · subst h; exact absurd rfl hx
        · exact h
      have := ih hn.2 hr'
      simp only [ne_eq, hx, not_false_eq_true, decide_true, if_true]
      simp only [total, List.map_cons, List.sum_cons] at *
      simp only [ne_eq] at this
      omega
theorem nodup_inj {α : Type} {f : α → Nat} {l : List α} (h : (l.map f).Nodup) {x y : α} (hx : x ∈ l) (hy : y ∈ l) (e : f x = f y) : x = y := by
  obtain ⟨i, hi, rfl⟩ := List.getElem_of_mem hx
  obtain ⟨j, hj, rfl⟩ := List.getElem_of_mem hy
  have : i = j := (List.getElem_inj (i := i) (j := j) (h₀ := by simpa using hi) (h₁ := by simpa using hj) h).1 (by simpa using e)
  subst this; rfl
theorem freeReg_wf {S : PA} (h : WF S) {r : Reg} (hr : r ∈ S.regs) : WF (freeReg S r) where
  len := by show (clearP _ _ _).length = _; rw [length_clearP _ _ _ (by rw [h.len]; exact (h.pos r hr).2)]; exact h.len
  sz := h.sz
  pos := fun x hx => h.pos x (List.mem_filter.1 hx).1
  apart := h.apart.filter _
  ids := h.ids.sublist (List.filter_sublist.map _)
  le := fun x hx => h.le x (List.mem_filter.1 hx).1
  lft := by
    show S.left + r.n + total (S.regs.filter _) = S.size
    have := total_filter h.ids hr
    have := h.lft
    omega
  zero := by
    intro i hi hno
    show (clearP _ _ _)[i]? = _
    rw [getElem?_clearP _ _ _ _ (by rw [h.len]; exact (h.pos r hr).2)]
    split
    · rfl
    · rename_i hni
      refine h.zero i hi fun x hx => ?_
      by_cases e : x.id = r.id
      · have hxr : x = r := nodup_inj h.ids hx hr e
        subst hxr; exact hni
      · exact hno x (List.mem_filter.2 ⟨hx, by simpa using e⟩)
  mtr := by
    intro m hm
    have hm' : S.mt.map (fun m => { m with used := m.used - r.n }) = some m := hm
    cases hmt : S.mt with
    | none => rw [hmt] at hm'; cases hm'
    | some m0 =>
      rw [hmt] at hm'
      injection hm' with hm'
      subst hm'
      have := h.mtr m0 hmt
      have ht := total_filter h.ids hr
      refine ⟨?_, this.2⟩
      show m0.used - r.n = total (S.regs.filter _)
      omega
theorem countP_or' (p q : Nat → Bool) (l : List Nat) (h : ∀ b, b ∈ l → ¬ (p b = true ∧ q b = true)) : l.countP (fun b => p b || q b) = l.countP p + l.countP q := by
  induction l with
  | nil => rfl
  | cons x l ih =>
    have := ih fun b hb => h b (List.mem_cons_of_mem _ hb)
    have hx := h x List.mem_cons_self
    rw [List.countP_cons, List.countP_cons, List.countP_cons, this]
    cases hp : p x <;> cases hq : q x <;> simp_all <;> omega
theorem count_span (size b n : Nat) (h : b + n ≤ size) : (List.range size).countP (fun i => decide (b ≤ i ∧ i < b + n)) = n := by
  obtain ⟨k, rfl⟩ : ∃ k, size = b + (n + k) := ⟨size - b - n, by omega⟩
  rw [List.range_add, List.countP_append, List.countP_map, List.range_add, List.countP_append, List.countP_map]
  have h1 : (List.range b).countP (fun i => decide (b ≤ i ∧ i < b + n)) = 0 := by
    rw [List.countP_eq_zero]; intro i hi; have := List.mem_range.1 hi; simp; omega
  have h2 : (List.range n).countP ((fun i => decide (b ≤ i ∧ i < b + n)) ∘ fun x => b + x) = n := by
    have : (List.range n).countP ((fun i => decide (b ≤ i ∧ i < b + n)) ∘ fun x => b + x) = (List.range n).length := by
      rw [List.countP_eq_length]; intro i hi; have := List.mem_range.1 hi; simp; omega
    rw [this, List.length_range]
  have h3 : (List.range k).countP (((fun i => decide (b ≤ i ∧ i < b + n)) ∘ fun x => b + x) ∘ fun x => n + x) = 0 := by
    rw [List.countP_eq_zero]; intro i _; simp
  rw [h1, h2, h3]; omega
theorem gap_left {S : PA} (h : WF S) {p n : Nat} (hp : p + n ≤ S.size) (ha : ∀ r, r ∈ S.regs → Apart (p, n) (r.base, r.n)) : n ≤ S.left := by
  have key : ∀ (rs : List Reg), rs.Pairwise (fun x y => Apart (x.base, x.n) (y.base, y.n)) → (∀ r, r ∈ rs → Apart (p, n) (r.base, r.n) ∧ r.base + r.n ≤ S.size) →
      total rs + n ≤ S.size := by
    intro rs hpw hb
    have cov : ∀ (rs : List Reg), rs.Pairwise (fun x y => Apart (x.base, x.n) (y.base, y.n)) → (∀ r, r ∈ rs → Apart (p, n) (r.base, r.n) ∧ r.base + r.n ≤ S.size) →
        (List.range S.size).countP (fun i => decide (p ≤ i ∧ i < p + n) || rs.any fun r => decide (r.base ≤ i ∧ i < r.base + r.n)) = n + total rs := by
      intro rs
      induction rs with
      | nil =>
        intro _ _
        simp only [List.any_nil, Bool.or_false]
        rw [count_span S.size p n hp]; simp [total]
      | cons r rs ih =>
        intro hpw hb
        rw [List.pairwise_cons] at hpw
        have := ih hpw.2 fun x hx => hb x (List.mem_cons_of_mem _ hx)
        have e : (fun i => decide (p ≤ i ∧ i < p + n) || (r :: rs).any fun r => decide (r.base ≤ i ∧ i < r.base + r.n)) = fun i => decide (r.base ≤ i ∧ i < r.base + r.n) || (decide (p ≤ i ∧ i < p + n) || rs.any fun r => decide (r.base ≤ i ∧ i < r.base + r.n)) := by
          funext i; rw [List.any_cons, ← Bool.or_assoc, Bool.or_comm (decide _) (decide _), Bool.or_assoc]
        rw [e, countP_or' _ _ _ ?_, this, count_span S.size r.base r.n (hb r List.mem_cons_self).2]
        · simp [total]; omega
        · intro i _ ⟨h1, h2⟩
          simp only [Bool.or_eq_true, decide_eq_true_eq, List.any_eq_true] at h1 h2
          rcases h2 with h2 | ⟨x, hx, h2⟩
          · have := (hb r List.mem_cons_self).1
            rcases this with h3 | h3 <;> simp at h3 <;> omega
          · rcases hpw.1 x hx with h3 | h3 <;> simp at h3 <;> omega
    have h1 := cov rs hpw hb
    have h2 := List.countP_le_length (p := (fun i => decide (p ≤ i ∧ i < p + n) || rs.any fun r => decide (r.base ≤ i ∧ i < r.base + r.n))) (l := List.range S.size)
    rw [List.length_range] at h2
    omega
  have := key S.regs h.apart fun r hr => ⟨ha r hr, (h.pos r hr).2⟩
  have := h.lft
  omega
theorem allocP_wf {S : PA} (h : WF S) (n : Int) : WF (allocP S n).2.2 := by
  unfold allocP
  split
  · exact h
  · rename_i hn
    obtain ⟨k, rfl⟩ := Int.eq_ofNat_of_zero_le (show 0 ≤ n by omega)
    rw [Int.toNat_natCast]
    split
    · exact h
    · rename_i p hp
      obtain ⟨h1, h2, _⟩ := (h.gap k (by omega)).1 p hp
      have hl := gap_left h h1 h2
      split
      · exact addReg_wf h (by omega) h1 h2 hl _ (by simp)
      · rename_i m hm
        have hmm := h.mtr m hm
        split
        · exact addReg_wf h (by omega) h1 h2 hl _ (by intro m' e; injection e with e; subst e; exact ⟨by simp [mtTake]; omega, hmm.2⟩)
        · exact ⟨h.len, h.sz, h.pos, h.apart, h.ids, h.le, h.lft, h.zero, by intro m' e; injection e with e; subst e; exact hmm⟩
theorem freeP_wf {S : PA} (h : WF S) (id : Int) : WF (freeP S id).2 := by
  unfold freeP
  split
  · exact h
  · rename_i r hr; exact freeReg_wf h (findP_mem hr).1
theorem cellP_lt {S : PA} (h : WF S) {id i : Int} {a : Nat} (hc : cellP S id i = (a, 0)) : ∃ r, findP S id = some r ∧ 0 ≤ i ∧ i < r.n ∧ a = r.base + i.toNat ∧ a < S.size := by
  unfold cellP at hc
  split at hc
  · cases hc
  · rename_i r hr
    split at hc
    · cases hc
    · rename_i hi
      injection hc with h1 _
      have := h.pos r (findP_mem hr).1
      exact ⟨r, hr, by omega, by omega, h1.symm, by omega⟩
theorem setP_wf {S : PA} (h : WF S) (id i v : Int) : WF (setP S id i v).2 := by
  unfold setP
  split
  · rename_i a hc
    obtain ⟨r, hr, h0, h1, ha, hlt⟩ := cellP_lt h hc
    refine ⟨by simp [h.len], h.sz, h.pos, h.apart, h.ids, h.le, h.lft, ?_, h.mtr⟩
    intro j hj hno
    show (S.cells.set a v)[j]? = _
    rw [List.getElem?_set]
    split
    · rename_i e
      exact absurd (show r.base ≤ j ∧ j < r.base + r.n by omega) (hno r (findP_mem hr).1)
    · exact h.zero j hj hno
  · exact h
theorem wipeP_wf {S : PA} (h : WF S) : WF (wipeP S) where
  len := by simp [wipeP]
  sz := h.sz
  pos := by simp [wipeP]
  apart := by simp [wipeP]
  ids := by simp [wipeP]
  le := by simp [wipeP]
  lft := by simp [wipeP, total]
  zero := by intro i hi _; simp only [wipeP] at hi ⊢; simp [hi]
  mtr := by
    intro m hm
    have hm' : S.mt.map (fun m => { m with used := 0 }) = some m := hm
    cases hmt : S.mt with
    | none => rw [hmt] at hm'; cases hm'
    | some m0 =>
      rw [hmt] at hm'
      injection hm' with hm'
      subst hm'
      exact ⟨by simp [wipeP, total], (h.mtr m0 hmt).2⟩
/-- Free regions one after the other, in any order: what is left. -/
theorem PA.ext' {S T : PA} (h1 : S.size = T.size) (h2 : S.cells = T.cells) (h3 : S.regs = T.regs) (h4 : S.last = T.last) (h5 : S.left = T.left) (h6 : S.mt = T.mt) : S = T := by
  cases S; cases T; simp only at *; subst h1; subst h2; subst h3; subst h4; subst h5; subst h6; rfl
theorem wf_empty {S : PA} (h : WF S) (he : S.regs = []) : S.cells = List.replicate S.size 0 ∧ S.left = S.size ∧ ∀ m, S.mt = some m → m.used = 0 := by
  refine ⟨?_, ?_, ?_⟩
  · apply List.ext_getElem?
    intro i
    by_cases hi : i < S.size
    · rw [h.zero i hi (by rw [he]; simp)]; simp [hi]
    · rw [List.getElem?_eq_none (by rw [h.len]; omega), List.getElem?_eq_none (by simp; omega)]
  · have := h.lft; rw [he] at this; simpa [total] using this
  · intro m hm; have := (h.mtr m hm).1; rw [he] at this; simpa [total] using this
end Go.Proofs.Ytdjmjdfkblhgdaa
