/- Regions do not overlap and lie within the arena: the law's walk. -/
import Derived.Test.YtdjmjdfkblhgdaaArLong
import Derived.Test.YtdjmjdfkblhgdaaArApartLaw
namespace Go.Proofs.Ytdjmjdfkblhgdaa
open Go.RowKit
theorem own_mv {w w1 : World} {f : Fp} {base e size n : Nat} {v : Value} {xs : List Value} (h : w.ownsRow base e size v n xs) (hm : Mv f w w1) (hf : f.a < base ∧ f.c < base ∧ f.m < base ∧ f.t = none) : w1.ownsRow base e size v n xs := by
  obtain ⟨h1, h2⟩ := h
  rcases h2 with h2 | ⟨g, cap, cur, hv, hg, hb, r⟩
  · exact ⟨h1, .inl h2⟩
  · exact ⟨h1, .inr ⟨g, cap, cur, hv, hg, (hm.block g (blk_lt hb) (by omega) (by omega) (by omega) (by rw [hf.2.2.2]; simp)).trans hb, r⟩⟩
def idCells (ids : List Nat) : List Value := ids.map fun (i : Nat) => Value.int .i64 (i : Int)
def takenMap (T : List Int) : List (Int × Value) := T.map fun x => (x, Value.bool true)
theorem look_taken {T : List Int} {x : Int} (h : x ∉ T) : lookK (takenMap T) x = none := by
  rw [lookK_none]
  intro p hp
  obtain ⟨y, hy, rfl⟩ := List.mem_map.1 hp
  exact fun e => h (e ▸ hy)
theorem put_taken {T : List Int} {x : Int} (h : x ∉ T) : putK (takenMap T) x (.bool true) = takenMap (T ++ [x]) := by
  rw [putK_new (look_taken h)]
  simp [takenMap]
theorem underB : Try.prog.underlying 42 = some (.map 3 4) := by kernel_rfl
theorem zeroB (w : World) : (zeroValue 4).run Try.prog w = .ok (.bool false) w := by kernel_rfl
def ApOut (N : Nat) (f : Fp) (w0 : World) (B : Nat) (k : Nat) (v : Value) (wr : World) : Prop :=
  ∃ (S : PA) (ids : List Nat), ArenaAt wr f S ∧ S.size = N ∧ S.last ≤ k ∧ IdsOK S ids ∧ wr.ownsRow B 3 1 v ids.length (idCells ids) ∧ Below w0.heap.size w0 wr ∧ B ≤ wr.heap.size
set_option maxRecDepth 100000 in
set_option maxHeartbeats 16000000 in
theorem apart_main (size : Int) (l1 : List OpV) (A1 : Option Addr) (c1 : Nat) (w : World) (r1 : RowAt w 0 w.heap.size A1 (opsCells l1)) (h1 : longP size l1.length = false) :
    Calls Try.prog 6 #[.int .i64 size, .slice A1 l1.length c1] w fun e w' => e = .returned (.bool true) ∧ Below w.heap.size w w' := by
  have L1 := fun wx => long_any size A1 l1.length c1 wx
  rw [h1] at L1
  have hs : size ≤ 300 ∧ l1.length ≤ 200 := by
    unfold longP at h1
    simp only [Bool.or_eq_false_iff, decide_eq_false_iff_not] at h1
    omega
  have HL1 := Lib.hid L1
  have NEW := Lib.hid (fun wx => new_any size (by omega) none none wx trivial (by intro m h; cases h))
  have R1 := Lib.hid (fun wx (hb : Below w.heap.size w wx) => r1.keep hb)
  obtain ⟨N, hNs⟩ : ∃ N, N = (newP size none).size := ⟨_, rfl⟩
  have hN0 : (N : Int) = max size 0 := by rw [hNs]; show (((min (max size 0) 1048576).toNat : Nat) : Int) = _; omega
  obtain ⟨i0, hi, hz0, hz1, hz2⟩ := info_parts infoI
  clear L1 h1 r1
  go_enter Try.func6, Try.ntmps6
  go_wp2_with fail
  refine (awake_any w).mono ?_
  rintro e w1 ⟨rfl, hb1⟩
  go_wp2_with fail
  refine (HL1.out w1).mono ?_
  rintro e _ ⟨rfl, rfl⟩
  go_wp2_with fail
  refine (NEW.out w1).mono ?_
  rintro e w2 ⟨f, rfl, hA, ta, aa, ac, am, hb2⟩
  have hsz1 := hb1.size
  have hlt2 := hA.lt
  obtain ⟨B, hBe⟩ : ∃ B, B = w2.heap.size := ⟨_, rfl⟩
  have HF := Lib.hid (show f.a < B ∧ f.c < B ∧ f.m < B ∧ f.t = none by rw [hBe]; exact ⟨hlt2.1, hlt2.2.1, hlt2.2.2.1, ta⟩)
  have HFR := Lib.hid (show f.from w.heap.size from ⟨by omega, by omega, by omega, fun t e => by rw [ta] at e; cases e⟩)
  have hwB : w.heap.size ≤ B := by have := hb2.size; omega
  have T := Lib.hid (show ApOut N f w B 0 (.slice none 0 0) w2 from ⟨_, [], hA, hNs.symm, Nat.zero_le _, IdsOK.nil _ rfl, ⟨rfl, .inl ⟨rfl, rfl⟩⟩, below_all hb1 hb2, by omega⟩)
  clear hA ta aa ac am hb2 hb1 NEW HL1 hlt2 hNs hBe hsz1
  go_wp2
  go_loopw [6, 29] (fun v i wr => ∃ k : Nat, k ≤ l1.length ∧ i = .int .i64 (k : Int) ∧ ApOut N f w B k v wr) (fun _ i _ => l1.length - (intOf i).toNat)
  case atStart => exact ⟨0, Nat.zero_le _, rfl, T.out⟩
  case round =>
    obtain ⟨k, hk, rfl, S, ids, hA, hN, hL, hI, hown, hlow, hBr⟩ := hrel
    obtain ⟨AI, cI, rfl⟩ := own_slice hown
    by_cases hlt : k < l1.length
    · have d3 : decide ((k : Int) < (l1.length : Int)) = true := by simp; omega
      obtain ⟨ad, rfl, hadl, e0, e1, e2, e3⟩ := op_at (R1.out _ hlow) (List.getElem?_eq_getElem hlt)
      generalize l1[k] = ov at *
      obtain ⟨ok, oid, on, ovv⟩ := ov
      simp only at e0 e1 e2 e3
      have hBl := (Below.refl wr.heap.size wr).alloc (Nat.le_refl _) (.cells #[.int .i64 ok, .int .i64 oid, .int .i64 on, .int .i64 ovv] 28)
      have HL := Lib.hid (heap_alloc_new wr (.cells #[.int .i64 ok, .int .i64 oid, .int .i64 on, .int .i64 ovv] 28))
      have HA := Lib.hid (hA.below hBl)
      have HO := Lib.hid (own_below hown hBl)
      have HI := Lib.hid hI
      have hlow2 := below_seq hlow hBl hlow.size
      have hBl2 : B ≤ (wr.alloc (.cells #[.int .i64 ok, .int .i64 oid, .int .i64 on, .int .i64 ovv] 28)).heap.size := Nat.le_trans hBr hBl.size
      have HLW := Lib.hid hlow2
      clear hA hown hI hlow hlow2 hBl
      by_cases q1 : ok = 1
      · subst q1
        go_wp2_with fail
        refine (alloc_any HA.out on (by omega)).mono ?_
        rintro e w5 ⟨rfl, hA5, hM5⟩
        by_cases he : (allocP S on).2.1 = 0
        · obtain ⟨hid, hI5⟩ := HI.out.alloc_ok he
          have hO5 := own_mv HO.out hM5 HF.out
          have hlow5 := hM5.below HFR.out HLW.out HLW.out.size
          have hB5 : B ≤ w5.heap.size := Nat.le_trans hBl2 hM5.size
          have hN5 : (allocP S on).2.2.size = N := by rw [allocP_size]; exact hN
          have hL5 : (allocP S on).2.2.last ≤ k + 1 := Nat.le_trans (allocP_last S on) (by omega)
          have HA5 := Lib.hid hA5
          have HI5 := Lib.hid hI5
          have HO5 := Lib.hid hO5
          have HLW5 := Lib.hid hlow5
          have hil : ids.length ≤ 300 := by
            have := HI.out.nodup.length_le_of_subset (l₂ := (List.range (S.last + 1))) (fun x hx => List.mem_range.2 (Nat.lt_succ_of_le (HI.out.le x hx)))
            rw [List.length_range] at this; omega
          clear hA5 hM5 hI5 hO5 hlow5 HA HO HI HLW HL e0 e1 e2 e3
          rw [he, hid]
          obtain ⟨ids5, h5⟩ : ∃ x, x = ids ++ [S.last + 1] := ⟨_, rfl⟩
          have hlen5 : ids.length + 1 = ids5.length := by rw [h5]; simp
          have hxs : idCells ids ++ (#[Value.int .i64 ((S.last : Int) + 1)] : Array Value).toList = idCells ids5 := by rw [h5]; simp [idCells]
          rw [← h5] at HI5
          generalize (allocP S on).2.2 = S5 at *
          have hmm := @run_makeMap Try.prog
          clear he hid h5
          go_wp2_with (at_builtin; refine wpList_push rfl _ _ 41 rfl B 3 i0 (.int .i64 0) 1 8 Try.underlying41 hi hz0 hz1 hz2 rfl (by decide) _ _ _ rfl HO5.out 1 _ _ rfl rfl rfl (by omega) (by decide) hB5 ?_; intro v6 wq hown6 hg6 _; rw [hlen5, hxs] at hown6; obtain ⟨AI5, cI5, rfl⟩ := own_slice hown6)
          have hlt5 := HA5.out.lt
          have ho := own_row HO5.out
          have HA6 : Hid (ArenaAt wq f S5) := ⟨(hg6.block _ hlt5.1 (own_ne HO5.out HF.out.1)).trans HA5.out.ba, (hg6.block _ hlt5.2.1 (own_ne HO5.out HF.out.2.1)).trans HA5.out.bc, HA5.out.bm.same (hg6.block _ hlt5.2.2.1 (own_ne HO5.out HF.out.2.2.1)), HA5.out.bt.same (fun b e => by rw [HF.out.2.2.2] at e; cases e), HA5.out.wf, HA5.out.la⟩
          have HO6 := Lib.hid hown6
          have HLW6 := Lib.hid (HLW5.out.grown hg6 HLW5.out.size (fun k' hk' => Nat.le_trans hwB (ho k' hk')))
          have hB6 : B ≤ wq.heap.size := Nat.le_trans hB5 hg6.size
          clear hown6 hg6 HA5 HO5 HLW5 hB5 hil hBl2 hBr hN hL hlen5 hxs hlt5 ho
          have hWF := Lib.hid HA6.out.wf
          have HI := HI5
          have hil5 : ids5.length ≤ 300 := by
            have := HI5.out.nodup.length_le_of_subset (l₂ := (List.range (S5.last + 1))) (fun x hx => List.mem_range.2 (Nat.lt_succ_of_le (HI5.out.le x hx)))
            rw [List.length_range] at this; omega
          have HBASE := Lib.hid (fun wx (hb : Below wq.heap.size wq wx) (id : Nat) => base_any (HA6.out.below hb) (id : Int))
          have HLEN := Lib.hid (fun wx (hb : Below wq.heap.size wq wx) (id : Nat) => len_any (HA6.out.below hb) (id : Int))
          have HLEFT := Lib.hid (fun wx (hb : Below wq.heap.size wq wx) => left_any (HA6.out.below hb))
          have HROW := Lib.hid (RowAt.own HO6.out)
          have HOUT := Lib.hid (fun wx (hb : Below wq.heap.size wq wx) => (show ApOut N f w B (k + 1) (.slice AI5 ids5.length cI5) wx from ⟨S5, ids5, HA6.out.below hb, hN5, hL5, HI5.out, own_below HO6.out hb, below_seq HLW6.out hb HLW6.out.size, Nat.le_trans hB6 hb.size⟩))
          have HM := Lib.hid (MapZ.new (enc := Value.int .i64) wq)
          have hBm : Below wq.heap.size wq (wq.alloc (.map #[] 0)) := (Below.refl _ _).alloc (Nat.le_refl _) _
          have hxl : (wq.alloc (.map #[] 0)).heap.size = wq.heap.size + 1 := by simp
          clear hmm HO6 HLW6 HI5
          generalize hqm : wq.alloc (.map #[] 0) = wm at *
          have hM0 : MapZ (Value.int .i64) wm wq.heap.size (takenMap (takenP S5 (ids5.take 0))) := HM.out
          have HM0 := Lib.hid hM0
          clear HM hM0 hqm
          go_loopw [63] (fun i wi => ∃ j : Nat, j ≤ ids5.length ∧ i = .int .i64 (j : Int) ∧ Below wq.heap.size wq wi ∧ MapZ (Value.int .i64) wi wq.heap.size (takenMap (takenP S5 (ids5.take j)))) (fun i _ => ids5.length - (intOf i).toNat)
          case atStart => exact ⟨0, Nat.zero_le _, rfl, hBm, HM0.out⟩
          case round =>
            obtain ⟨j, hj, rfl, hBi, hMi⟩ := hrel
            by_cases hjl : j < ids5.length
            · have d7 : decide ((j : Int) < (ids5.length : Int)) = true := by simp; omega
              obtain ⟨id, hid⟩ : ∃ id, id = ids5[j] := ⟨_, rfl⟩
              have hgj : ids5[j]? = some id := by rw [hid]; exact List.getElem?_eq_getElem hjl
              have hcell : (idCells ids5)[j]? = some (.int .i64 (id : Int)) := by unfold idCells; rw [List.getElem?_map, hgj]; rfl
              obtain ⟨ai, rfl, _, _, hci⟩ := (RowAt.keep HROW.out hBi) _ _ hcell
              have htake : ids5.take (j + 1) = ids5.take j ++ [id] := by rw [List.take_add_one, hgj]; rfl
              have hT1 : takenP S5 (ids5.take (j + 1)) = takenP S5 (ids5.take j) ++ cellsOf S5 id := by rw [htake]; simp [takenP]
              have hfresh : Hid (∀ x, x ∈ cellsOf S5 id → x ∉ takenP S5 (ids5.take j)) := fun x hx hm => by
                obtain ⟨id', h1, h2⟩ := List.mem_flatMap.1 hm
                have hne : id ≠ id' := fun e => by
                  subst e
                  have := HI.out.nodup
                  rw [← List.take_append_drop j ids5, List.nodup_append] at this
                  exact this.2.2 id h1 id (by rw [List.mem_iff_getElem?]; exact ⟨0, by rw [List.getElem?_drop]; simpa using hgj⟩) rfl
                exact hWF.out.cells_apart hne hx h2
              have HT1 := Lib.hid hT1
              have HMi := Lib.hid hMi
              clear hid hcell htake hT1 hMi
              go_wp2_with fail
              refine (HBASE.out _ hBi id).mono ?_
              rintro e wb ⟨rfl, hbb⟩
              have hBb := below_seq hBi hbb hBi.size
              have HMb := Lib.hid (HMi.out.below hbb)
              clear HMi hbb hci
              go_wp2_with fail
              refine (HLEN.out _ hBb id).mono ?_
              rintro e wc ⟨rfl, hbc⟩
              have hBc := below_seq hBb hbc hBb.size
              have HMc := Lib.hid (HMb.out.below hbc)
              clear HMb hbc
              have hmx : max (lenP S5 (id : Int)) 0 = ((cellsOf S5 id).length : Int) := by
                unfold lenP cellsOf
                cases findP S5 (id : Int) with
                | none => decide
                | some r => simp
              have hat : Hid (∀ i, i < (cellsOf S5 id).length → (cellsOf S5 id)[i]? = some (baseP S5 (id : Int) + (i : Int)) ∧ 0 ≤ baseP S5 (id : Int) + (i : Int) ∧ baseP S5 (id : Int) + (i : Int) < size) := fun i hil' => by
                have hg : (cellsOf S5 id)[i]? = some (baseP S5 (id : Int) + (i : Int)) := by
                  unfold baseP
                  unfold cellsOf at hil' ⊢
                  cases hfp : findP S5 (id : Int) with
                  | none => rw [hfp] at hil'; exact absurd hil' (by simp)
                  | some r => rw [hfp] at hil'; simp at hil'; simp [hil']
                have hin := hWF.out.cells_in (List.mem_of_getElem? hg)
                exact ⟨hg, hin.1, by have := hin.2; have := hN0; omega⟩
              have hM3 : Hid (MapZ (Value.int .i64) wc wq.heap.size (takenMap (takenP S5 (ids5.take j) ++ (cellsOf S5 id).take 0))) := by rw [List.take_zero, List.append_nil]; exact HMc.out
              clear HMc
              have hcl : (cellsOf S5 id).length ≤ 1048576 := by
                unfold cellsOf
                cases hfp : findP S5 (id : Int) with
                | none => simp
                | some r => simp; have := (hWF.out.pos r (findP_mem hfp).1).2; have := hWF.out.sz; omega
              generalize baseP S5 (id : Int) = bs at *
              generalize lenP S5 (id : Int) = ln at *
              have HAT := hat
              have HFR2 := hfresh
              have HM3 := hM3
              obtain ⟨cs, hcs⟩ : ∃ cs, cs = cellsOf S5 id := ⟨_, rfl⟩
              rw [← hcs] at hmx HAT HFR2 HM3 HT1 hcl
              clear hcs hat hfresh hM3
              go_wp2
              go_loopw [74] (fun i wi => ∃ q : Nat, q ≤ cs.length ∧ i = .int .i64 (q : Int) ∧ Below wq.heap.size wq wi ∧ MapZ (Value.int .i64) wi wq.heap.size (takenMap (takenP S5 (ids5.take j) ++ cs.take q))) (fun i _ => cs.length - (intOf i).toNat)
              case atStart => exact ⟨0, Nat.zero_le _, rfl, hBc, HM3.out⟩
              case round =>
                obtain ⟨q, hq, rfl, hBd, hMd⟩ := hrel
                by_cases hql : q < cs.length
                · have d8 : decide ((q : Int) < (cs.length : Int)) = true := by simp; omega
                  obtain ⟨hg, h0, hsz⟩ := HAT.out q hql
                  have d9 : decide (bs + (q : Int) < 0) = false := by simp; omega
                  have d10 : decide (size ≤ bs + (q : Int)) = false := by simp; omega
                  have hno : bs + (q : Int) ∉ takenP S5 (ids5.take j) ++ cs.take q := fun hm => by
                    rcases List.mem_append.1 hm with hm | hm
                    · exact HFR2.out _ (List.mem_of_getElem? hg) hm
                    · obtain ⟨i, hi, he⟩ := List.getElem_of_mem hm
                      rw [List.length_take] at hi
                      have h1 := (HAT.out i (by omega)).1
                      rw [List.getElem_take] at he
                      rw [List.getElem?_eq_getElem (by omega), he] at h1
                      injection h1 with h1
                      omega
                  have hput := Lib.hid (put_taken hno)
                  have hlk := run_lookupZ (P := Try.prog) keysR hMd 42 4 underB (.bool false) (zeroB _) (bs + (q : Int)) false
                  rw [look_taken hno] at hlk
                  have htk : Hid (takenP S5 (ids5.take j) ++ cs.take q ++ [bs + (q : Int)] = takenP S5 (ids5.take j) ++ cs.take (q + 1)) := by show _ = _; rw [List.take_add_one, hg, List.append_assoc]; rfl
                  have HMD := Lib.hid hMd
                  simp only [Option.getD_none, Bool.false_eq_true, if_false] at hlk
                  clear hno hg hMd
                  go_wp2_with (refine wpList_updateZ keysR rfl _ _ _ 42 rfl 4 underB (bs + (q : Int)) (.bool true) rfl rfl rfl HMD.out ?_; intro we hme hge hse)
                  have HME := hme
                  rw [hput.out, htk.out] at HME
                  have hBe := hBd.grown hge hBd.size (fun k' hk' => by injection hk' with hk'; omega)
                  go_roundw
                  case rel => exact ⟨q + 1, by omega, by go_num, hBe, HME⟩
                  case measure => simp [intOf]; omega
                · have d8 : decide ((q : Int) < (cs.length : Int)) = false := by simp; omega
                  have hqe : q = cs.length := by omega
                  rw [hqe, List.take_length, ← HT1.out] at hMd
                  have HMD := Lib.hid hMd
                  clear hMd hqe
                  go_wp2
                  go_roundw
                  case rel => exact ⟨j + 1, by omega, by go_num, hBd, HMD.out⟩
                  case measure => simp [intOf]; omega
            · have d7 : decide ((j : Int) < (ids5.length : Int)) = false := by simp; omega
              have hje : j = ids5.length := by omega
              rw [hje, List.take_length] at hMi
              have hln := run_lenZ (P := Try.prog) hMi 42 3 3 4 underB
              have htl : ((takenMap (takenP S5 ids5)).length : Int) = (total S5.regs : Int) := by unfold takenMap; rw [List.length_map, takenP_length hWF.out HI.out]
              have hlf := hWF.out.lft
              have hsum : (S5.left : Int) + (total S5.regs : Int) = max size 0 := by omega
              have hbnd : total S5.regs ≤ 1048576 := by have := hWF.out.sz; omega
              rw [htl] at hln
              clear hMi hje htl
              go_wp2_with fail
              refine (HLEFT.out _ hBi).mono ?_
              rintro e _ ⟨rfl, rfl⟩
              go_wp2
              go_roundw
              case rel => exact ⟨k + 1, by omega, by go_num, HOUT.out _ hBi⟩
              case measure => simp [intOf]; omega
        · have d6 : (((allocP S on).2.1 : Int) == 0) = false := by simp; omega
          have hI5 := HI.out.alloc_no he
          have HO6 := Lib.hid (own_mv HO.out hM5 HF.out)
          have HLW6 := Lib.hid (hM5.below HFR.out HLW.out HLW.out.size)
          have hB6 : B ≤ w5.heap.size := Nat.le_trans hBl2 hM5.size
          have hN5 : (allocP S on).2.2.size = N := by rw [allocP_size]; exact hN
          have hL5 : (allocP S on).2.2.last ≤ k + 1 := Nat.le_trans (allocP_last S on) (by omega)
          have HA6 := Lib.hid hA5
          have HI5 := Lib.hid hI5
          have hmm := @run_makeMap Try.prog
          clear hA5 hM5 hI5 HA HO HI HLW HL e0 e1 e2 e3 he hBl2 hBr hN
          generalize (allocP S on).2.2 = S5 at *
          obtain ⟨wq, rfl⟩ : ∃ x, x = w5 := ⟨_, rfl⟩
          obtain ⟨ids5, rfl⟩ : ∃ x, x = ids := ⟨_, rfl⟩
          obtain ⟨AI5, rfl⟩ : ∃ x, x = AI := ⟨_, rfl⟩
          obtain ⟨cI5, rfl⟩ : ∃ x, x = cI := ⟨_, rfl⟩
          clear hL
          generalize ((allocP S on).2.1 : Int) = er at *
          go_wp2
          have hWF := Lib.hid HA6.out.wf
          have HI := HI5
          have hil5 : ids5.length ≤ 300 := by
            have := HI5.out.nodup.length_le_of_subset (l₂ := (List.range (S5.last + 1))) (fun x hx => List.mem_range.2 (Nat.lt_succ_of_le (HI5.out.le x hx)))
            rw [List.length_range] at this; omega
          have HBASE := Lib.hid (fun wx (hb : Below wq.heap.size wq wx) (id : Nat) => base_any (HA6.out.below hb) (id : Int))
          have HLEN := Lib.hid (fun wx (hb : Below wq.heap.size wq wx) (id : Nat) => len_any (HA6.out.below hb) (id : Int))
          have HLEFT := Lib.hid (fun wx (hb : Below wq.heap.size wq wx) => left_any (HA6.out.below hb))
          have HROW := Lib.hid (RowAt.own HO6.out)
          have HOUT := Lib.hid (fun wx (hb : Below wq.heap.size wq wx) => (show ApOut N f w B (k + 1) (.slice AI5 ids5.length cI5) wx from ⟨S5, ids5, HA6.out.below hb, hN5, hL5, HI5.out, own_below HO6.out hb, below_seq HLW6.out hb HLW6.out.size, Nat.le_trans hB6 hb.size⟩))
          have HM := Lib.hid (MapZ.new (enc := Value.int .i64) wq)
          have hBm : Below wq.heap.size wq (wq.alloc (.map #[] 0)) := (Below.refl _ _).alloc (Nat.le_refl _) _
          have hxl : (wq.alloc (.map #[] 0)).heap.size = wq.heap.size + 1 := by simp
          clear hmm HO6 HLW6 HI5
          generalize hqm : wq.alloc (.map #[] 0) = wm at *
          have hM0 : MapZ (Value.int .i64) wm wq.heap.size (takenMap (takenP S5 (ids5.take 0))) := HM.out
          have HM0 := Lib.hid hM0
          clear HM hM0 hqm
          go_loopw [63] (fun i wi => ∃ j : Nat, j ≤ ids5.length ∧ i = .int .i64 (j : Int) ∧ Below wq.heap.size wq wi ∧ MapZ (Value.int .i64) wi wq.heap.size (takenMap (takenP S5 (ids5.take j)))) (fun i _ => ids5.length - (intOf i).toNat)
          case atStart => exact ⟨0, Nat.zero_le _, rfl, hBm, HM0.out⟩
          case round =>
            obtain ⟨j, hj, rfl, hBi, hMi⟩ := hrel
            by_cases hjl : j < ids5.length
            · have d7 : decide ((j : Int) < (ids5.length : Int)) = true := by simp; omega
              obtain ⟨id, hid⟩ : ∃ id, id = ids5[j] := ⟨_, rfl⟩
              have hgj : ids5[j]? = some id := by rw [hid]; exact List.getElem?_eq_getElem hjl
              have hcell : (idCells ids5)[j]? = some (.int .i64 (id : Int)) := by unfold idCells; rw [List.getElem?_map, hgj]; rfl
              obtain ⟨ai, rfl, _, _, hci⟩ := (RowAt.keep HROW.out hBi) _ _ hcell
              have htake : ids5.take (j + 1) = ids5.take j ++ [id] := by rw [List.take_add_one, hgj]; rfl
              have hT1 : takenP S5 (ids5.take (j + 1)) = takenP S5 (ids5.take j) ++ cellsOf S5 id := by rw [htake]; simp [takenP]
              have hfresh : Hid (∀ x, x ∈ cellsOf S5 id → x ∉ takenP S5 (ids5.take j)) := fun x hx hm => by
                obtain ⟨id', h1, h2⟩ := List.mem_flatMap.1 hm
                have hne : id ≠ id' := fun e => by
                  subst e
                  have := HI.out.nodup
                  rw [← List.take_append_drop j ids5, List.nodup_append] at this
                  exact this.2.2 id h1 id (by rw [List.mem_iff_getElem?]; exact ⟨0, by rw [List.getElem?_drop]; simpa using hgj⟩) rfl
                exact hWF.out.cells_apart hne hx h2
              have HT1 := Lib.hid hT1
              have HMi := Lib.hid hMi
              clear hid hcell htake hT1 hMi
              go_wp2_with fail
              refine (HBASE.out _ hBi id).mono ?_
              rintro e wb ⟨rfl, hbb⟩
              have hBb := below_seq hBi hbb hBi.size
              have HMb := Lib.hid (HMi.out.below hbb)
              clear HMi hbb hci
              go_wp2_with fail
              refine (HLEN.out _ hBb id).mono ?_
              rintro e wc ⟨rfl, hbc⟩
              have hBc := below_seq hBb hbc hBb.size
              have HMc := Lib.hid (HMb.out.below hbc)
              clear HMb hbc
              have hmx : max (lenP S5 (id : Int)) 0 = ((cellsOf S5 id).length : Int) := by
                unfold lenP cellsOf
                cases findP S5 (id : Int) with
                | none => decide
                | some r => simp
              have hat : Hid (∀ i, i < (cellsOf S5 id).length → (cellsOf S5 id)[i]? = some (baseP S5 (id : Int) + (i : Int)) ∧ 0 ≤ baseP S5 (id : Int) + (i : Int) ∧ baseP S5 (id : Int) + (i : Int) < size) := fun i hil' => by
                have hg : (cellsOf S5 id)[i]? = some (baseP S5 (id : Int) + (i : Int)) := by
                  unfold baseP
                  unfold cellsOf at hil' ⊢
                  cases hfp : findP S5 (id : Int) with
                  | none => rw [hfp] at hil'; exact absurd hil' (by simp)
                  | some r => rw [hfp] at hil'; simp at hil'; simp [hil']
                have hin := hWF.out.cells_in (List.mem_of_getElem? hg)
                exact ⟨hg, hin.1, by have := hin.2; have := hN0; omega⟩
              have hM3 : Hid (MapZ (Value.int .i64) wc wq.heap.size (takenMap (takenP S5 (ids5.take j) ++ (cellsOf S5 id).take 0))) := by rw [List.take_zero, List.append_nil]; exact HMc.out
              clear HMc
              have hcl : (cellsOf S5 id).length ≤ 1048576 := by
                unfold cellsOf
                cases hfp : findP S5 (id : Int) with
                | none => simp
                | some r => simp; have := (hWF.out.pos r (findP_mem hfp).1).2; have := hWF.out.sz; omega
              generalize baseP S5 (id : Int) = bs at *
              generalize lenP S5 (id : Int) = ln at *
              have HAT := hat
              have HFR2 := hfresh
              have HM3 := hM3
              obtain ⟨cs, hcs⟩ : ∃ cs, cs = cellsOf S5 id := ⟨_, rfl⟩
              rw [← hcs] at hmx HAT HFR2 HM3 HT1 hcl
              clear hcs hat hfresh hM3
              go_wp2
              go_loopw [74] (fun i wi => ∃ q : Nat, q ≤ cs.length ∧ i = .int .i64 (q : Int) ∧ Below wq.heap.size wq wi ∧ MapZ (Value.int .i64) wi wq.heap.size (takenMap (takenP S5 (ids5.take j) ++ cs.take q))) (fun i _ => cs.length - (intOf i).toNat)
              case atStart => exact ⟨0, Nat.zero_le _, rfl, hBc, HM3.out⟩
              case round =>
                obtain ⟨q, hq, rfl, hBd, hMd⟩ := hrel
                by_cases hql : q < cs.length
                · have d8 : decide ((q : Int) < (cs.length : Int)) = true := by simp; omega
                  obtain ⟨hg, h0, hsz⟩ := HAT.out q hql
                  have d9 : decide (bs + (q : Int) < 0) = false := by simp; omega
                  have d10 : decide (size ≤ bs + (q : Int)) = false := by simp; omega
                  have hno : bs + (q : Int) ∉ takenP S5 (ids5.take j) ++ cs.take q := fun hm => by
                    rcases List.mem_append.1 hm with hm | hm
                    · exact HFR2.out _ (List.mem_of_getElem? hg) hm
                    · obtain ⟨i, hi, he⟩ := List.getElem_of_mem hm
                      rw [List.length_take] at hi
                      have h1 := (HAT.out i (by omega)).1
                      rw [List.getElem_take] at he
                      rw [List.getElem?_eq_getElem (by omega), he] at h1
                      injection h1 with h1
                      omega
                  have hput := Lib.hid (put_taken hno)
                  have hlk := run_lookupZ (P := Try.prog) keysR hMd 42 4 underB (.bool false) (zeroB _) (bs + (q : Int)) false
                  rw [look_taken hno] at hlk
                  have htk : Hid (takenP S5 (ids5.take j) ++ cs.take q ++ [bs + (q : Int)] = takenP S5 (ids5.take j) ++ cs.take (q + 1)) := by show _ = _; rw [List.take_add_one, hg, List.append_assoc]; rfl
                  have HMD := Lib.hid hMd
                  simp only [Option.getD_none, Bool.false_eq_true, if_false] at hlk
                  clear hno hg hMd
                  go_wp2_with (refine wpList_updateZ keysR rfl _ _ _ 42 rfl 4 underB (bs + (q : Int)) (.bool true) rfl rfl rfl HMD.out ?_; intro we hme hge hse)
                  have HME := hme
                  rw [hput.out, htk.out] at HME
                  have hBe := hBd.grown hge hBd.size (fun k' hk' => by injection hk' with hk'; omega)
                  go_roundw
                  case rel => exact ⟨q + 1, by omega, by go_num, hBe, HME⟩
                  case measure => simp [intOf]; omega
                · have d8 : decide ((q : Int) < (cs.length : Int)) = false := by simp; omega
                  have hqe : q = cs.length := by omega
                  rw [hqe, List.take_length, ← HT1.out] at hMd
                  have HMD := Lib.hid hMd
                  clear hMd hqe
                  go_wp2
                  go_roundw
                  case rel => exact ⟨j + 1, by omega, by go_num, hBd, HMD.out⟩
                  case measure => simp [intOf]; omega
            · have d7 : decide ((j : Int) < (ids5.length : Int)) = false := by simp; omega
              have hje : j = ids5.length := by omega
              rw [hje, List.take_length] at hMi
              have hln := run_lenZ (P := Try.prog) hMi 42 3 3 4 underB
              have htl : ((takenMap (takenP S5 ids5)).length : Int) = (total S5.regs : Int) := by unfold takenMap; rw [List.length_map, takenP_length hWF.out HI.out]
              have hlf := hWF.out.lft
              have hsum : (S5.left : Int) + (total S5.regs : Int) = max size 0 := by omega
              have hbnd : total S5.regs ≤ 1048576 := by have := hWF.out.sz; omega
              rw [htl] at hln
              clear hMi hje htl
              go_wp2_with fail
              refine (HLEFT.out _ hBi).mono ?_
              rintro e _ ⟨rfl, rfl⟩
              go_wp2
              go_roundw
              case rel => exact ⟨k + 1, by omega, by go_num, HOUT.out _ hBi⟩
              case measure => simp [intOf]; omega
      · have d6 : (ok == 1) = false := by simp [q1]
        by_cases q2 : ok = 2
        · subst q2
          clear q1 d6
          go_wp2_with fail
          refine (free_any HA.out oid).mono ?_
          rintro e w5 ⟨rfl, hA5, hM5⟩
          have hI5 := HI.out.free oid
          have HO6 := Lib.hid (own_mv HO.out hM5 HF.out)
          have HLW6 := Lib.hid (hM5.below HFR.out HLW.out HLW.out.size)
          have hB6 : B ≤ w5.heap.size := Nat.le_trans hBl2 hM5.size
          have hN5 : (freeP S oid).2.size = N := by rw [freeP_size]; exact hN
          have hL5 : (freeP S oid).2.last ≤ k + 1 := by rw [freeP_last]; omega
          have HA6 := Lib.hid hA5
          have HI5 := Lib.hid hI5
          have hmm := @run_makeMap Try.prog
          clear hA5 hM5 hI5 HA HO HI HLW HL e0 e1 e2 e3 hBl2 hBr hN
          go_wp2
          generalize (freeP S oid).2 = S5 at *
          obtain ⟨wq, rfl⟩ : ∃ x, x = w5 := ⟨_, rfl⟩
          obtain ⟨ids5, rfl⟩ : ∃ x, x = ids := ⟨_, rfl⟩
          obtain ⟨AI5, rfl⟩ : ∃ x, x = AI := ⟨_, rfl⟩
          obtain ⟨cI5, rfl⟩ : ∃ x, x = cI := ⟨_, rfl⟩
          clear hL
          have hWF := Lib.hid HA6.out.wf
          have HI := HI5
          have hil5 : ids5.length ≤ 300 := by
            have := HI5.out.nodup.length_le_of_subset (l₂ := (List.range (S5.last + 1))) (fun x hx => List.mem_range.2 (Nat.lt_succ_of_le (HI5.out.le x hx)))
            rw [List.length_range] at this; omega
          have HBASE := Lib.hid (fun wx (hb : Below wq.heap.size wq wx) (id : Nat) => base_any (HA6.out.below hb) (id : Int))
          have HLEN := Lib.hid (fun wx (hb : Below wq.heap.size wq wx) (id : Nat) => len_any (HA6.out.below hb) (id : Int))
          have HLEFT := Lib.hid (fun wx (hb : Below wq.heap.size wq wx) => left_any (HA6.out.below hb))
          have HROW := Lib.hid (RowAt.own HO6.out)
          have HOUT := Lib.hid (fun wx (hb : Below wq.heap.size wq wx) => (show ApOut N f w B (k + 1) (.slice AI5 ids5.length cI5) wx from ⟨S5, ids5, HA6.out.below hb, hN5, hL5, HI5.out, own_below HO6.out hb, below_seq HLW6.out hb HLW6.out.size, Nat.le_trans hB6 hb.size⟩))
          have HM := Lib.hid (MapZ.new (enc := Value.int .i64) wq)
          have hBm : Below wq.heap.size wq (wq.alloc (.map #[] 0)) := (Below.refl _ _).alloc (Nat.le_refl _) _
          have hxl : (wq.alloc (.map #[] 0)).heap.size = wq.heap.size + 1 := by simp
          clear hmm HO6 HLW6 HI5
          generalize hqm : wq.alloc (.map #[] 0) = wm at *
          have hM0 : MapZ (Value.int .i64) wm wq.heap.size (takenMap (takenP S5 (ids5.take 0))) := HM.out
          have HM0 := Lib.hid hM0
          clear HM hM0 hqm
          go_loopw [63] (fun i wi => ∃ j : Nat, j ≤ ids5.length ∧ i = .int .i64 (j : Int) ∧ Below wq.heap.size wq wi ∧ MapZ (Value.int .i64) wi wq.heap.size (takenMap (takenP S5 (ids5.take j)))) (fun i _ => ids5.length - (intOf i).toNat)
          case atStart => exact ⟨0, Nat.zero_le _, rfl, hBm, HM0.out⟩
          case round =>
            obtain ⟨j, hj, rfl, hBi, hMi⟩ := hrel
            by_cases hjl : j < ids5.length
            · have d7 : decide ((j : Int) < (ids5.length : Int)) = true := by simp; omega
              obtain ⟨id, hid⟩ : ∃ id, id = ids5[j] := ⟨_, rfl⟩
              have hgj : ids5[j]? = some id := by rw [hid]; exact List.getElem?_eq_getElem hjl
              have hcell : (idCells ids5)[j]? = some (.int .i64 (id : Int)) := by unfold idCells; rw [List.getElem?_map, hgj]; rfl
              obtain ⟨ai, rfl, _, _, hci⟩ := (RowAt.keep HROW.out hBi) _ _ hcell
              have htake : ids5.take (j + 1) = ids5.take j ++ [id] := by rw [List.take_add_one, hgj]; rfl
              have hT1 : takenP S5 (ids5.take (j + 1)) = takenP S5 (ids5.take j) ++ cellsOf S5 id := by rw [htake]; simp [takenP]
              have hfresh : Hid (∀ x, x ∈ cellsOf S5 id → x ∉ takenP S5 (ids5.take j)) := fun x hx hm => by
                obtain ⟨id', h1, h2⟩ := List.mem_flatMap.1 hm
                have hne : id ≠ id' := fun e => by
                  subst e
                  have := HI.out.nodup
                  rw [← List.take_append_drop j ids5, List.nodup_append] at this
                  exact this.2.2 id h1 id (by rw [List.mem_iff_getElem?]; exact ⟨0, by rw [List.getElem?_drop]; simpa using hgj⟩) rfl
                exact hWF.out.cells_apart hne hx h2
              have HT1 := Lib.hid hT1
              have HMi := Lib.hid hMi
              clear hid hcell htake hT1 hMi
              go_wp2_with fail
              refine (HBASE.out _ hBi id).mono ?_
              rintro e wb ⟨rfl, hbb⟩
              have hBb := below_seq hBi hbb hBi.size
              have HMb := Lib.hid (HMi.out.below hbb)
              clear HMi hbb hci
              go_wp2_with fail
              refine (HLEN.out _ hBb id).mono ?_
              rintro e wc ⟨rfl, hbc⟩
              have hBc := below_seq hBb hbc hBb.size
              have HMc := Lib.hid (HMb.out.below hbc)
              clear HMb hbc
              have hmx : max (lenP S5 (id : Int)) 0 = ((cellsOf S5 id).length : Int) := by
                unfold lenP cellsOf
                cases findP S5 (id : Int) with
                | none => decide
                | some r => simp
              have hat : Hid (∀ i, i < (cellsOf S5 id).length → (cellsOf S5 id)[i]? = some (baseP S5 (id : Int) + (i : Int)) ∧ 0 ≤ baseP S5 (id : Int) + (i : Int) ∧ baseP S5 (id : Int) + (i : Int) < size) := fun i hil' => by
                have hg : (cellsOf S5 id)[i]? = some (baseP S5 (id : Int) + (i : Int)) := by
                  unfold baseP
                  unfold cellsOf at hil' ⊢
                  cases hfp : findP S5 (id : Int) with
                  | none => rw [hfp] at hil'; exact absurd hil' (by simp)
                  | some r => rw [hfp] at hil'; simp at hil'; simp [hil']
                have hin := hWF.out.cells_in (List.mem_of_getElem? hg)
                exact ⟨hg, hin.1, by have := hin.2; have := hN0; omega⟩
              have hM3 : Hid (MapZ (Value.int .i64) wc wq.heap.size (takenMap (takenP S5 (ids5.take j) ++ (cellsOf S5 id).take 0))) := by rw [List.take_zero, List.append_nil]; exact HMc.out
              clear HMc
              have hcl : (cellsOf S5 id).length ≤ 1048576 := by
                unfold cellsOf
                cases hfp : findP S5 (id : Int) with
                | none => simp
                | some r => simp; have := (hWF.out.pos r (findP_mem hfp).1).2; have := hWF.out.sz; omega
              generalize baseP S5 (id : Int) = bs at *
              generalize lenP S5 (id : Int) = ln at *
              have HAT := hat
              have HFR2 := hfresh
              have HM3 := hM3
              obtain ⟨cs, hcs⟩ : ∃ cs, cs = cellsOf S5 id := ⟨_, rfl⟩
              rw [← hcs] at hmx HAT HFR2 HM3 HT1 hcl
              clear hcs hat hfresh hM3
              go_wp2
              go_loopw [74] (fun i wi => ∃ q : Nat, q ≤ cs.length ∧ i = .int .i64 (q : Int) ∧ Below wq.heap.size wq wi ∧ MapZ (Value.int .i64) wi wq.heap.size (takenMap (takenP S5 (ids5.take j) ++ cs.take q))) (fun i _ => cs.length - (intOf i).toNat)
              case atStart => exact ⟨0, Nat.zero_le _, rfl, hBc, HM3.out⟩
              case round =>
                obtain ⟨q, hq, rfl, hBd, hMd⟩ := hrel
                by_cases hql : q < cs.length
                · have d8 : decide ((q : Int) < (cs.length : Int)) = true := by simp; omega
                  obtain ⟨hg, h0, hsz⟩ := HAT.out q hql
                  have d9 : decide (bs + (q : Int) < 0) = false := by simp; omega
                  have d10 : decide (size ≤ bs + (q : Int)) = false := by simp; omega
                  have hno : bs + (q : Int) ∉ takenP S5 (ids5.take j) ++ cs.take q := fun hm => by
                    rcases List.mem_append.1 hm with hm | hm
                    · exact HFR2.out _ (List.mem_of_getElem? hg) hm
                    · obtain ⟨i, hi, he⟩ := List.getElem_of_mem hm
                      rw [List.length_take] at hi
                      have h1 := (HAT.out i (by omega)).1
                      rw [List.getElem_take] at he
                      rw [List.getElem?_eq_getElem (by omega), he] at h1
                      injection h1 with h1
                      omega
                  have hput := Lib.hid (put_taken hno)
                  have hlk := run_lookupZ (P := Try.prog) keysR hMd 42 4 underB (.bool false) (zeroB _) (bs + (q : Int)) false
                  rw [look_taken hno] at hlk
                  have htk : Hid (takenP S5 (ids5.take j) ++ cs.take q ++ [bs + (q : Int)] = takenP S5 (ids5.take j) ++ cs.take (q + 1)) := by show _ = _; rw [List.take_add_one, hg, List.append_assoc]; rfl
                  have HMD := Lib.hid hMd
                  simp only [Option.getD_none, Bool.false_eq_true, if_false] at hlk
                  clear hno hg hMd
                  go_wp2_with (refine wpList_updateZ keysR rfl _ _ _ 42 rfl 4 underB (bs + (q : Int)) (.bool true) rfl rfl rfl HMD.out ?_; intro we hme hge hse)
                  have HME := hme
                  rw [hput.out, htk.out] at HME
                  have hBe := hBd.grown hge hBd.size (fun k' hk' => by injection hk' with hk'; omega)
                  go_roundw
                  case rel => exact ⟨q + 1, by omega, by go_num, hBe, HME⟩
                  case measure => simp [intOf]; omega
                · have d8 : decide ((q : Int) < (cs.length : Int)) = false := by simp; omega
                  have hqe : q = cs.length := by omega
                  rw [hqe, List.take_length, ← HT1.out] at hMd
                  have HMD := Lib.hid hMd
                  clear hMd hqe
                  go_wp2
                  go_roundw
                  case rel => exact ⟨j + 1, by omega, by go_num, hBd, HMD.out⟩
                  case measure => simp [intOf]; omega
            · have d7 : decide ((j : Int) < (ids5.length : Int)) = false := by simp; omega
              have hje : j = ids5.length := by omega
              rw [hje, List.take_length] at hMi
              have hln := run_lenZ (P := Try.prog) hMi 42 3 3 4 underB
              have htl : ((takenMap (takenP S5 ids5)).length : Int) = (total S5.regs : Int) := by unfold takenMap; rw [List.length_map, takenP_length hWF.out HI.out]
              have hlf := hWF.out.lft
              have hsum : (S5.left : Int) + (total S5.regs : Int) = max size 0 := by omega
              have hbnd : total S5.regs ≤ 1048576 := by have := hWF.out.sz; omega
              rw [htl] at hln
              clear hMi hje htl
              go_wp2_with fail
              refine (HLEFT.out _ hBi).mono ?_
              rintro e _ ⟨rfl, rfl⟩
              go_wp2
              go_roundw
              case rel => exact ⟨k + 1, by omega, by go_num, HOUT.out _ hBi⟩
              case measure => simp [intOf]; omega
        · have d62 : (ok == 2) = false := by simp [q2]
          by_cases q5 : ok = 5
          · subst q5
            clear q1 d6 q2 d62
            go_wp2_with fail
            refine (wipe_any HA.out).mono ?_
            rintro e w5 ⟨rfl, hA5, hM5⟩
            have hI5 := HI.out.wipe
            have HO6 := Lib.hid (own_mv HO.out hM5 HF.out)
            have HLW6 := Lib.hid (hM5.below HFR.out HLW.out HLW.out.size)
            have hB6 : B ≤ w5.heap.size := Nat.le_trans hBl2 hM5.size
            have hN5 : (wipeP S).size = N := hN
            have hL5 : (wipeP S).last ≤ k + 1 := Nat.le_trans hL (Nat.le_succ _)
            have HA6 := Lib.hid hA5
            have HI5 := Lib.hid hI5
            have hmm := @run_makeMap Try.prog
            clear hA5 hM5 hI5 HA HO HI HLW HL e0 e1 e2 e3 hBl2 hBr hN
            go_wp2
            generalize wipeP S = S5 at *
            obtain ⟨wq, rfl⟩ : ∃ x, x = w5 := ⟨_, rfl⟩
            obtain ⟨ids5, rfl⟩ : ∃ x, x = ids := ⟨_, rfl⟩
            obtain ⟨AI5, rfl⟩ : ∃ x, x = AI := ⟨_, rfl⟩
            obtain ⟨cI5, rfl⟩ : ∃ x, x = cI := ⟨_, rfl⟩
            clear hL
            have hWF := Lib.hid HA6.out.wf
            have HI := HI5
            have hil5 : ids5.length ≤ 300 := by
              have := HI5.out.nodup.length_le_of_subset (l₂ := (List.range (S5.last + 1))) (fun x hx => List.mem_range.2 (Nat.lt_succ_of_le (HI5.out.le x hx)))
              rw [List.length_range] at this; omega
            have HBASE := Lib.hid (fun wx (hb : Below wq.heap.size wq wx) (id : Nat) => base_any (HA6.out.below hb) (id : Int))
            have HLEN := Lib.hid (fun wx (hb : Below wq.heap.size wq wx) (id : Nat) => len_any (HA6.out.below hb) (id : Int))
            have HLEFT := Lib.hid (fun wx (hb : Below wq.heap.size wq wx) => left_any (HA6.out.below hb))
            have HROW := Lib.hid (RowAt.own HO6.out)
            have HOUT := Lib.hid (fun wx (hb : Below wq.heap.size wq wx) => (show ApOut N f w B (k + 1) (.slice AI5 ids5.length cI5) wx from ⟨S5, ids5, HA6.out.below hb, hN5, hL5, HI5.out, own_below HO6.out hb, below_seq HLW6.out hb HLW6.out.size, Nat.le_trans hB6 hb.size⟩))
            have HM := Lib.hid (MapZ.new (enc := Value.int .i64) wq)
            have hBm : Below wq.heap.size wq (wq.alloc (.map #[] 0)) := (Below.refl _ _).alloc (Nat.le_refl _) _
            have hxl : (wq.alloc (.map #[] 0)).heap.size = wq.heap.size + 1 := by simp
            clear hmm HO6 HLW6 HI5
            generalize hqm : wq.alloc (.map #[] 0) = wm at *
            have hM0 : MapZ (Value.int .i64) wm wq.heap.size (takenMap (takenP S5 (ids5.take 0))) := HM.out
            have HM0 := Lib.hid hM0
            clear HM hM0 hqm
            go_loopw [63] (fun i wi => ∃ j : Nat, j ≤ ids5.length ∧ i = .int .i64 (j : Int) ∧ Below wq.heap.size wq wi ∧ MapZ (Value.int .i64) wi wq.heap.size (takenMap (takenP S5 (ids5.take j)))) (fun i _ => ids5.length - (intOf i).toNat)
            case atStart => exact ⟨0, Nat.zero_le _, rfl, hBm, HM0.out⟩
            case round =>
              obtain ⟨j, hj, rfl, hBi, hMi⟩ := hrel
              by_cases hjl : j < ids5.length
              · have d7 : decide ((j : Int) < (ids5.length : Int)) = true := by simp; omega
                obtain ⟨id, hid⟩ : ∃ id, id = ids5[j] := ⟨_, rfl⟩
                have hgj : ids5[j]? = some id := by rw [hid]; exact List.getElem?_eq_getElem hjl
                have hcell : (idCells ids5)[j]? = some (.int .i64 (id : Int)) := by unfold idCells; rw [List.getElem?_map, hgj]; rfl
                obtain ⟨ai, rfl, _, _, hci⟩ := (RowAt.keep HROW.out hBi) _ _ hcell
                have htake : ids5.take (j + 1) = ids5.take j ++ [id] := by rw [List.take_add_one, hgj]; rfl
                have hT1 : takenP S5 (ids5.take (j + 1)) = takenP S5 (ids5.take j) ++ cellsOf S5 id := by rw [htake]; simp [takenP]
                have hfresh : Hid (∀ x, x ∈ cellsOf S5 id → x ∉ takenP S5 (ids5.take j)) := fun x hx hm => by
                  obtain ⟨id', h1, h2⟩ := List.mem_flatMap.1 hm
                  have hne : id ≠ id' := fun e => by
                    subst e
                    have := HI.out.nodup
                    rw [← List.take_append_drop j ids5, List.nodup_append] at this
                    exact this.2.2 id h1 id (by rw [List.mem_iff_getElem?]; exact ⟨0, by rw [List.getElem?_drop]; simpa using hgj⟩) rfl
                  exact hWF.out.cells_apart hne hx h2
                have HT1 := Lib.hid hT1
                have HMi := Lib.hid hMi
                clear hid hcell htake hT1 hMi
                go_wp2_with fail
                refine (HBASE.out _ hBi id).mono ?_
                rintro e wb ⟨rfl, hbb⟩
                have hBb := below_seq hBi hbb hBi.size
                have HMb := Lib.hid (HMi.out.below hbb)
                clear HMi hbb hci
                go_wp2_with fail
                refine (HLEN.out _ hBb id).mono ?_
                rintro e wc ⟨rfl, hbc⟩
                have hBc := below_seq hBb hbc hBb.size
                have HMc := Lib.hid (HMb.out.below hbc)
                clear HMb hbc
                have hmx : max (lenP S5 (id : Int)) 0 = ((cellsOf S5 id).length : Int) := by
                  unfold lenP cellsOf
                  cases findP S5 (id : Int) with
                  | none => decide
                  | some r => simp
                have hat : Hid (∀ i, i < (cellsOf S5 id).length → (cellsOf S5 id)[i]? = some (baseP S5 (id : Int) + (i : Int)) ∧ 0 ≤ baseP S5 (id : Int) + (i : Int) ∧ baseP S5 (id : Int) + (i : Int) < size) := fun i hil' => by
                  have hg : (cellsOf S5 id)[i]? = some (baseP S5 (id : Int) + (i : Int)) := by
                    unfold baseP
                    unfold cellsOf at hil' ⊢
                    cases hfp : findP S5 (id : Int) with
                    | none => rw [hfp] at hil'; exact absurd hil' (by simp)
                    | some r => rw [hfp] at hil'; simp at hil'; simp [hil']
                  have hin := hWF.out.cells_in (List.mem_of_getElem? hg)
                  exact ⟨hg, hin.1, by have := hin.2; have := hN0; omega⟩
                have hM3 : Hid (MapZ (Value.int .i64) wc wq.heap.size (takenMap (takenP S5 (ids5.take j) ++ (cellsOf S5 id).take 0))) := by rw [List.take_zero, List.append_nil]; exact HMc.out
                clear HMc
                have hcl : (cellsOf S5 id).length ≤ 1048576 := by
                  unfold cellsOf
                  cases hfp : findP S5 (id : Int) with
                  | none => simp
                  | some r => simp; have := (hWF.out.pos r (findP_mem hfp).1).2; have := hWF.out.sz; omega
                generalize baseP S5 (id : Int) = bs at *
                generalize lenP S5 (id : Int) = ln at *
                have HAT := hat
                have HFR2 := hfresh
                have HM3 := hM3
                obtain ⟨cs, hcs⟩ : ∃ cs, cs = cellsOf S5 id := ⟨_, rfl⟩
                rw [← hcs] at hmx HAT HFR2 HM3 HT1 hcl
                clear hcs hat hfresh hM3
                go_wp2
                go_loopw [74] (fun i wi => ∃ q : Nat, q ≤ cs.length ∧ i = .int .i64 (q : Int) ∧ Below wq.heap.size wq wi ∧ MapZ (Value.int .i64) wi wq.heap.size (takenMap (takenP S5 (ids5.take j) ++ cs.take q))) (fun i _ => cs.length - (intOf i).toNat)
                case atStart => exact ⟨0, Nat.zero_le _, rfl, hBc, HM3.out⟩
                case round =>
                  obtain ⟨q, hq, rfl, hBd, hMd⟩ := hrel
                  by_cases hql : q < cs.length
                  · have d8 : decide ((q : Int) < (cs.length : Int)) = true := by simp; omega
                    obtain ⟨hg, h0, hsz⟩ := HAT.out q hql
                    have d9 : decide (bs + (q : Int) < 0) = false := by simp; omega
                    have d10 : decide (size ≤ bs + (q : Int)) = false := by simp; omega
                    have hno : bs + (q : Int) ∉ takenP S5 (ids5.take j) ++ cs.take q := fun hm => by
                      rcases List.mem_append.1 hm with hm | hm
                      · exact HFR2.out _ (List.mem_of_getElem? hg) hm
                      · obtain ⟨i, hi, he⟩ := List.getElem_of_mem hm
                        rw [List.length_take] at hi
                        have h1 := (HAT.out i (by omega)).1
                        rw [List.getElem_take] at he
                        rw [List.getElem?_eq_getElem (by omega), he] at h1
                        injection h1 with h1
                        omega
                    have hput := Lib.hid (put_taken hno)
                    have hlk := run_lookupZ (P := Try.prog) keysR hMd 42 4 underB (.bool false) (zeroB _) (bs + (q : Int)) false
                    rw [look_taken hno] at hlk
                    have htk : Hid (takenP S5 (ids5.take j) ++ cs.take q ++ [bs + (q : Int)] = takenP S5 (ids5.take j) ++ cs.take (q + 1)) := by show _ = _; rw [List.take_add_one, hg, List.append_assoc]; rfl
                    have HMD := Lib.hid hMd
                    simp only [Option.getD_none, Bool.false_eq_true, if_false] at hlk
                    clear hno hg hMd
                    go_wp2_with (refine wpList_updateZ keysR rfl _ _ _ 42 rfl 4 underB (bs + (q : Int)) (.bool true) rfl rfl rfl HMD.out ?_; intro we hme hge hse)
                    have HME := hme
                    rw [hput.out, htk.out] at HME
                    have hBe := hBd.grown hge hBd.size (fun k' hk' => by injection hk' with hk'; omega)
                    go_roundw
                    case rel => exact ⟨q + 1, by omega, by go_num, hBe, HME⟩
                    case measure => simp [intOf]; omega
                  · have d8 : decide ((q : Int) < (cs.length : Int)) = false := by simp; omega
                    have hqe : q = cs.length := by omega
                    rw [hqe, List.take_length, ← HT1.out] at hMd
                    have HMD := Lib.hid hMd
                    clear hMd hqe
                    go_wp2
                    go_roundw
                    case rel => exact ⟨j + 1, by omega, by go_num, hBd, HMD.out⟩
                    case measure => simp [intOf]; omega
              · have d7 : decide ((j : Int) < (ids5.length : Int)) = false := by simp; omega
                have hje : j = ids5.length := by omega
                rw [hje, List.take_length] at hMi
                have hln := run_lenZ (P := Try.prog) hMi 42 3 3 4 underB
                have htl : ((takenMap (takenP S5 ids5)).length : Int) = (total S5.regs : Int) := by unfold takenMap; rw [List.length_map, takenP_length hWF.out HI.out]
                have hlf := hWF.out.lft
                have hsum : (S5.left : Int) + (total S5.regs : Int) = max size 0 := by omega
                have hbnd : total S5.regs ≤ 1048576 := by have := hWF.out.sz; omega
                rw [htl] at hln
                clear hMi hje htl
                go_wp2_with fail
                refine (HLEFT.out _ hBi).mono ?_
                rintro e _ ⟨rfl, rfl⟩
                go_wp2
                go_roundw
                case rel => exact ⟨k + 1, by omega, by go_num, HOUT.out _ hBi⟩
                case measure => simp [intOf]; omega
          · have d65 : (ok == 5) = false := by simp [q5]
            have hL5 : S.last ≤ k + 1 := Nat.le_succ_of_le hL
            have hmm := @run_makeMap Try.prog
            clear HL q1 q2 q5
            go_wp2
            clear e0 e1 e2 e3
            have hsz : (wr.alloc (.cells #[.int .i64 ok, .int .i64 oid, .int .i64 on, .int .i64 ovv] 28)).heap.size = wr.heap.size + 1 := by simp
            generalize wr.alloc (.cells #[.int .i64 ok, .int .i64 oid, .int .i64 on, .int .i64 ovv] 28) = wq at *
            rw [← hsz]
            clear hsz
            obtain ⟨S5, rfl⟩ : ∃ x, x = S := ⟨_, rfl⟩
            obtain ⟨ids5, rfl⟩ : ∃ x, x = ids := ⟨_, rfl⟩
            obtain ⟨AI5, rfl⟩ : ∃ x, x = AI := ⟨_, rfl⟩
            obtain ⟨cI5, rfl⟩ : ∃ x, x = cI := ⟨_, rfl⟩
            have HA6 := HA
            have HO6 := HO
            have HLW6 := HLW
            have hB6 := hBl2
            have HI5 := HI
            have hN5 := hN
            clear HA HO HLW hBl2 hN HI hL
            have hWF := Lib.hid HA6.out.wf
            have HI := HI5
            have hil5 : ids5.length ≤ 300 := by
              have := HI5.out.nodup.length_le_of_subset (l₂ := (List.range (S5.last + 1))) (fun x hx => List.mem_range.2 (Nat.lt_succ_of_le (HI5.out.le x hx)))
              rw [List.length_range] at this; omega
            have HBASE := Lib.hid (fun wx (hb : Below wq.heap.size wq wx) (id : Nat) => base_any (HA6.out.below hb) (id : Int))
            have HLEN := Lib.hid (fun wx (hb : Below wq.heap.size wq wx) (id : Nat) => len_any (HA6.out.below hb) (id : Int))
            have HLEFT := Lib.hid (fun wx (hb : Below wq.heap.size wq wx) => left_any (HA6.out.below hb))
            have HROW := Lib.hid (RowAt.own HO6.out)
            have HOUT := Lib.hid (fun wx (hb : Below wq.heap.size wq wx) => (show ApOut N f w B (k + 1) (.slice AI5 ids5.length cI5) wx from ⟨S5, ids5, HA6.out.below hb, hN5, hL5, HI5.out, own_below HO6.out hb, below_seq HLW6.out hb HLW6.out.size, Nat.le_trans hB6 hb.size⟩))
            have HM := Lib.hid (MapZ.new (enc := Value.int .i64) wq)
            have hBm : Below wq.heap.size wq (wq.alloc (.map #[] 0)) := (Below.refl _ _).alloc (Nat.le_refl _) _
            have hxl : (wq.alloc (.map #[] 0)).heap.size = wq.heap.size + 1 := by simp
            clear hmm HO6 HLW6 HI5
            generalize hqm : wq.alloc (.map #[] 0) = wm at *
            have hM0 : MapZ (Value.int .i64) wm wq.heap.size (takenMap (takenP S5 (ids5.take 0))) := HM.out
            have HM0 := Lib.hid hM0
            clear HM hM0 hqm
            go_loopw [63] (fun i wi => ∃ j : Nat, j ≤ ids5.length ∧ i = .int .i64 (j : Int) ∧ Below wq.heap.size wq wi ∧ MapZ (Value.int .i64) wi wq.heap.size (takenMap (takenP S5 (ids5.take j)))) (fun i _ => ids5.length - (intOf i).toNat)
            case atStart => exact ⟨0, Nat.zero_le _, rfl, hBm, HM0.out⟩
            case round =>
              obtain ⟨j, hj, rfl, hBi, hMi⟩ := hrel
              by_cases hjl : j < ids5.length
              · have d7 : decide ((j : Int) < (ids5.length : Int)) = true := by simp; omega
                obtain ⟨id, hid⟩ : ∃ id, id = ids5[j] := ⟨_, rfl⟩
                have hgj : ids5[j]? = some id := by rw [hid]; exact List.getElem?_eq_getElem hjl
                have hcell : (idCells ids5)[j]? = some (.int .i64 (id : Int)) := by unfold idCells; rw [List.getElem?_map, hgj]; rfl
                obtain ⟨ai, rfl, _, _, hci⟩ := (RowAt.keep HROW.out hBi) _ _ hcell
                have htake : ids5.take (j + 1) = ids5.take j ++ [id] := by rw [List.take_add_one, hgj]; rfl
                have hT1 : takenP S5 (ids5.take (j + 1)) = takenP S5 (ids5.take j) ++ cellsOf S5 id := by rw [htake]; simp [takenP]
                have hfresh : Hid (∀ x, x ∈ cellsOf S5 id → x ∉ takenP S5 (ids5.take j)) := fun x hx hm => by
                  obtain ⟨id', h1, h2⟩ := List.mem_flatMap.1 hm
                  have hne : id ≠ id' := fun e => by
                    subst e
                    have := HI.out.nodup
                    rw [← List.take_append_drop j ids5, List.nodup_append] at this
                    exact this.2.2 id h1 id (by rw [List.mem_iff_getElem?]; exact ⟨0, by rw [List.getElem?_drop]; simpa using hgj⟩) rfl
                  exact hWF.out.cells_apart hne hx h2
                have HT1 := Lib.hid hT1
                have HMi := Lib.hid hMi
                clear hid hcell htake hT1 hMi
                go_wp2_with fail
                refine (HBASE.out _ hBi id).mono ?_
                rintro e wb ⟨rfl, hbb⟩
                have hBb := below_seq hBi hbb hBi.size
                have HMb := Lib.hid (HMi.out.below hbb)
                clear HMi hbb hci
                go_wp2_with fail
                refine (HLEN.out _ hBb id).mono ?_
                rintro e wc ⟨rfl, hbc⟩
                have hBc := below_seq hBb hbc hBb.size
                have HMc := Lib.hid (HMb.out.below hbc)
                clear HMb hbc
                have hmx : max (lenP S5 (id : Int)) 0 = ((cellsOf S5 id).length : Int) := by
                  unfold lenP cellsOf
                  cases findP S5 (id : Int) with
                  | none => decide
                  | some r => simp
                have hat : Hid (∀ i, i < (cellsOf S5 id).length → (cellsOf S5 id)[i]? = some (baseP S5 (id : Int) + (i : Int)) ∧ 0 ≤ baseP S5 (id : Int) + (i : Int) ∧ baseP S5 (id : Int) + (i : Int) < size) := fun i hil' => by
                  have hg : (cellsOf S5 id)[i]? = some (baseP S5 (id : Int) + (i : Int)) := by
                    unfold baseP
                    unfold cellsOf at hil' ⊢
                    cases hfp : findP S5 (id : Int) with
                    | none => rw [hfp] at hil'; exact absurd hil' (by simp)
                    | some r => rw [hfp] at hil'; simp at hil'; simp [hil']
                  have hin := hWF.out.cells_in (List.mem_of_getElem? hg)
                  exact ⟨hg, hin.1, by have := hin.2; have := hN0; omega⟩
                have hM3 : Hid (MapZ (Value.int .i64) wc wq.heap.size (takenMap (takenP S5 (ids5.take j) ++ (cellsOf S5 id).take 0))) := by rw [List.take_zero, List.append_nil]; exact HMc.out
                clear HMc
                have hcl : (cellsOf S5 id).length ≤ 1048576 := by
                  unfold cellsOf
                  cases hfp : findP S5 (id : Int) with
                  | none => simp
                  | some r => simp; have := (hWF.out.pos r (findP_mem hfp).1).2; have := hWF.out.sz; omega
                generalize baseP S5 (id : Int) = bs at *
                generalize lenP S5 (id : Int) = ln at *
                have HAT := hat
                have HFR2 := hfresh
                have HM3 := hM3
                obtain ⟨cs, hcs⟩ : ∃ cs, cs = cellsOf S5 id := ⟨_, rfl⟩
                rw [← hcs] at hmx HAT HFR2 HM3 HT1 hcl
                clear hcs hat hfresh hM3
                go_wp2
                go_loopw [74] (fun i wi => ∃ q : Nat, q ≤ cs.length ∧ i = .int .i64 (q : Int) ∧ Below wq.heap.size wq wi ∧ MapZ (Value.int .i64) wi wq.heap.size (takenMap (takenP S5 (ids5.take j) ++ cs.take q))) (fun i _ => cs.length - (intOf i).toNat)
                case atStart => exact ⟨0, Nat.zero_le _, rfl, hBc, HM3.out⟩
                case round =>
                  obtain ⟨q, hq, rfl, hBd, hMd⟩ := hrel
                  by_cases hql : q < cs.length
                  · have d8 : decide ((q : Int) < (cs.length : Int)) = true := by simp; omega
                    obtain ⟨hg, h0, hsz⟩ := HAT.out q hql
                    have d9 : decide (bs + (q : Int) < 0) = false := by simp; omega
                    have d10 : decide (size ≤ bs + (q : Int)) = false := by simp; omega
                    have hno : bs + (q : Int) ∉ takenP S5 (ids5.take j) ++ cs.take q := fun hm => by
                      rcases List.mem_append.1 hm with hm | hm
                      · exact HFR2.out _ (List.mem_of_getElem? hg) hm
                      · obtain ⟨i, hi, he⟩ := List.getElem_of_mem hm
                        rw [List.length_take] at hi
                        have h1 := (HAT.out i (by omega)).1
                        rw [List.getElem_take] at he
                        rw [List.getElem?_eq_getElem (by omega), he] at h1
                        injection h1 with h1
                        omega
                    have hput := Lib.hid (put_taken hno)
                    have hlk := run_lookupZ (P := Try.prog) keysR hMd 42 4 underB (.bool false) (zeroB _) (bs + (q : Int)) false
                    rw [look_taken hno] at hlk
                    have htk : Hid (takenP S5 (ids5.take j) ++ cs.take q ++ [bs + (q : Int)] = takenP S5 (ids5.take j) ++ cs.take (q + 1)) := by show _ = _; rw [List.take_add_one, hg, List.append_assoc]; rfl
                    have HMD := Lib.hid hMd
                    simp only [Option.getD_none, Bool.false_eq_true, if_false] at hlk
                    clear hno hg hMd
                    go_wp2_with (refine wpList_updateZ keysR rfl _ _ _ 42 rfl 4 underB (bs + (q : Int)) (.bool true) rfl rfl rfl HMD.out ?_; intro we hme hge hse)
                    have HME := hme
                    rw [hput.out, htk.out] at HME
                    have hBe := hBd.grown hge hBd.size (fun k' hk' => by injection hk' with hk'; omega)
                    go_roundw
                    case rel => exact ⟨q + 1, by omega, by go_num, hBe, HME⟩
                    case measure => simp [intOf]; omega
                  · have d8 : decide ((q : Int) < (cs.length : Int)) = false := by simp; omega
                    have hqe : q = cs.length := by omega
                    rw [hqe, List.take_length, ← HT1.out] at hMd
                    have HMD := Lib.hid hMd
                    clear hMd hqe
                    go_wp2
                    go_roundw
                    case rel => exact ⟨j + 1, by omega, by go_num, hBd, HMD.out⟩
                    case measure => simp [intOf]; omega
              · have d7 : decide ((j : Int) < (ids5.length : Int)) = false := by simp; omega
                have hje : j = ids5.length := by omega
                rw [hje, List.take_length] at hMi
                have hln := run_lenZ (P := Try.prog) hMi 42 3 3 4 underB
                have htl : ((takenMap (takenP S5 ids5)).length : Int) = (total S5.regs : Int) := by unfold takenMap; rw [List.length_map, takenP_length hWF.out HI.out]
                have hlf := hWF.out.lft
                have hsum : (S5.left : Int) + (total S5.regs : Int) = max size 0 := by omega
                have hbnd : total S5.regs ≤ 1048576 := by have := hWF.out.sz; omega
                rw [htl] at hln
                clear hMi hje htl
                go_wp2_with fail
                refine (HLEFT.out _ hBi).mono ?_
                rintro e _ ⟨rfl, rfl⟩
                go_wp2
                go_roundw
                case rel => exact ⟨k + 1, by omega, by go_num, HOUT.out _ hBi⟩
                case measure => simp [intOf]; omega
    · have d3 : decide ((k : Int) < (l1.length : Int)) = false := by simp; omega
      go_wp2
      go_returns
      exact ⟨rfl, hlow⟩
theorem apart_any (size : Int) (l1 : List OpV) (A1 : Option Addr) (c1 : Nat) (w : World) (r1 : RowAt w 0 w.heap.size A1 (opsCells l1)) :
    Calls Try.prog 6 #[.int .i64 size, .slice A1 l1.length c1] w fun e w' => e = .returned (.bool true) ∧ Below w.heap.size w w' := by
  cases h1 : longP size l1.length with
  | true =>
    have L1 := fun wx => long_any size A1 l1.length c1 wx
    rw [h1] at L1
    have HL1 := Lib.hid L1
    clear L1 h1 r1
    go_enter Try.func6, Try.ntmps6
    go_wp2_with fail
    refine (awake_any w).mono ?_
    rintro e w1 ⟨rfl, hb1⟩
    go_wp2_with fail
    refine (HL1.out w1).mono ?_
    rintro e _ ⟨rfl, rfl⟩
    go_wp2_with fail
    refine (awake_any w1).mono ?_
    rintro e w2 ⟨rfl, hb2⟩
    go_wp2
    go_returns
    exact ⟨rfl, below_all hb1 hb2⟩
  | false => exact apart_main size l1 A1 c1 w r1 h1
end Go.Proofs.Ytdjmjdfkblhgdaa
