/- The document's reference: when two bytes are alike. -/
import Derived.Test.YtccbfcnnbdgcgaaDoorCut
namespace Go.Proofs.YtccbfcnnbdgcgaaDoor
open Go.RowKit
attribute [local go_sem] S4.val

theorem alike_succ (l : List S4) (n a b : Nat) (h : n < l.length) : alike (l.take (n + 1)) a b = (alike (l.take n) a b && (l[n].has a == l[n].has b)) := by
  rw [List.take_succ_eq_append_getElem h, alike_snoc]
theorem held4_keep {W0 wx w1 : World} {p0 p1 p2 p3 : Addr} {v0 v1 v2 v3 : Value} (h : wx.cell? p0 = some v0 ∧ wx.cell? p1 = some v1 ∧ wx.cell? p2 = some v2 ∧ wx.cell? p3 = some v3 ∧ Below W0.heap.size W0 wx)
    (hb : Below wx.heap.size wx w1) : w1.cell? p0 = some v0 ∧ w1.cell? p1 = some v1 ∧ w1.cell? p2 = some v2 ∧ w1.cell? p3 = some v3 ∧ Below W0.heap.size W0 w1 := by
  obtain ⟨h0, h1, h2, h3, h9⟩ := h
  have k : ∀ {p : Addr} {v : Value}, wx.cell? p = some v → w1.cell? p = some v := fun {p v} h => (hb.cell (World.block_lt_of_cell? wx p h)).trans h
  exact ⟨k h0, k h1, k h2, k h3, below_all h9 hb⟩
def RAl (l : List S4) (a b : Nat) (w : World) (i : Value) (wr : World) : Prop := ∃ n : Nat, n ≤ l.length ∧ i = .int .i64 (n : Int) ∧ alike (l.take n) a b = true ∧ Below w.heap.size w wr
theorem refHas_open (s : S4) (x : Int) (h0 : 0 ≤ x) (h1 : x < 256) (w : World) :
    Calls Tryd.prog 20 #[s.val, .int .i64 x] w fun e w' => e = .returned (.bool (s.has x.toNat)) ∧ Below w.heap.size w w' := refHas_is s _ x h0 h1 rfl w
set_option maxRecDepth 100000 in
set_option maxHeartbeats 1000000 in
theorem alike_any (l : List S4) (hl : l.length ≤ 1099511627776) (A : Option Addr) (c : Nat) (a b : Nat) (ha : a < 256) (hb : b < 256) (w : World) (hrow : RowAt w 0 w.heap.size A (setsCells l)) :
    Calls Tryd.prog 25 #[.slice A l.length c, .int .i64 a, .int .i64 b] w fun e w' => e = .returned (.bool (alike l a b)) ∧ Below w.heap.size w w' := by
  go_enter Tryd.func25, Tryd.ntmps25
  go_wp2
  go_loopw [7] (fun i wr => RAl l a b w i wr) (fun i _ => l.length - (intOf i).toNat)
  case atStart => exact ⟨0, Nat.zero_le _, rfl, rfl, Below.refl _ _⟩
  case round =>
    obtain ⟨n, hn, rfl, hal, hB⟩ := hrel
    by_cases hlt : n < l.length
    · obtain ⟨ad, rfl, _, hbl, hcells⟩ := row_set (hrow.keep hB) (List.getElem?_eq_getElem hlt)
      have hsucc := Lib.hid (alike_succ l n a b hlt)
      generalize hs : l[n] = s at *
      have e0 := hcells 0 _ rfl
      have e1 := hcells 1 _ rfl
      have e2 := hcells 2 _ rfl
      have e3 := hcells 3 _ rfl
      rw [add_one_addr _ _ (by decide)] at e1 e2 e3
      rw [show ((ad.add (n * 4)).add 0) = ad.add (n * 4) from rfl] at e0
      have hbW : Below wr.heap.size wr wr := Below.refl _ _
      have HS := Lib.hid hs
      have HAL := Lib.hid hal
      clear hcells hs hal
      go_upto_region 4 with (fail)
      go_region_held3 (fun w' => w'.cell? (ad.add (n * 4)) = some (.int .u64 s.w0.toNat) ∧ w'.cell? ⟨(ad.add (n * 4)).block, (ad.add (n * 4)).off + 1, none⟩ = some (.int .u64 s.w1.toNat) ∧ w'.cell? ⟨(ad.add (n * 4)).block, (ad.add (n * 4)).off + 2, none⟩ = some (.int .u64 s.w2.toNat) ∧ w'.cell? ⟨(ad.add (n * 4)).block, (ad.add (n * 4)).off + 3, none⟩ = some (.int .u64 s.w3.toNat) ∧ Below wr.heap.size wr w')
          (first | (refine ⟨by assumption, by assumption, by assumption, by assumption, by first | assumption | exact hbW.drew⟩) | (go_split_ands; exact held4_keep ⟨by assumption, by assumption, by assumption, by assumption, by first | assumption | exact hbW.drew⟩ hb1))
          (first | (go_at_call 20; refine (refHas_open _ _ (by omega) (by omega) _).mono ?_; rintro e w1 ⟨rfl, hb1⟩))
      rename_i wA hbA _
      have hbW1 : Below wr.heap.size wr w1 := below_all (below_all hbW.drew hbA) hb1
      have hB4 := below_seq hB hbW1 hB.size
      clear hbA hb1 e0 e1 e2 e3 hbW1
      cases hha : s.has a <;> cases hhb : s.has b
      case true.true =>
        have X : RAl l a b w (.int .i64 ((n : Int) + 1)) w1 := ⟨n + 1, hlt, by go_num, by rw [hsucc.out, HAL.out]; simp [hha, hhb], hB4⟩
        clear hha hhb
        go_wp2
        go_roundw
        case rel => exact X
        case measure => simp [intOf]; omega
      case false.false =>
        have X : RAl l a b w (.int .i64 ((n : Int) + 1)) w1 := ⟨n + 1, hlt, by go_num, by rw [hsucc.out, HAL.out]; simp [hha, hhb], hB4⟩
        clear hha hhb
        go_wp2
        go_roundw
        case rel => exact X
        case measure => simp [intOf]; omega
      case true.false =>
        have fin : Hid (alike l a b = false) := by
          have h1 : s ∈ l := by rw [← HS.out]; exact List.getElem_mem hlt
          cases h2 : alike l a b
          · rfl
          · have h3 := (alike_iff l a b).1 h2 s h1
            simp [hha, hhb] at h3
        clear hha hhb
        go_wp2
        go_returns
        exact ⟨by rw [fin.out]; rfl, hB4⟩
      case false.true =>
        have fin : Hid (alike l a b = false) := by
          have h1 : s ∈ l := by rw [← HS.out]; exact List.getElem_mem hlt
          cases h2 : alike l a b
          · rfl
          · have h3 := (alike_iff l a b).1 h2 s h1
            simp [hha, hhb] at h3
        clear hha hhb
        go_wp2
        go_returns
        exact ⟨by rw [fin.out]; rfl, hB4⟩
    · obtain rfl : n = l.length := by omega
      rw [List.take_length] at hal
      have HAL := Lib.hid hal
      clear hal
      go_wp2
      go_returns
      exact ⟨by rw [HAL.out]; rfl, hB⟩
theorem alike_is (l : List S4) (hl : l.length ≤ 1099511627776) (A : Option Addr) (c : Nat) (a b : Nat) (ha : a < 256) (hb : b < 256) (x : Bool) (hx : alike l a b = x) (w : World) (hrow : RowAt w 0 w.heap.size A (setsCells l)) :
    Calls Tryd.prog 25 #[.slice A l.length c, .int .i64 a, .int .i64 b] w fun e w' => e = .returned (.bool x) ∧ Below w.heap.size w w' := by
  rw [← hx]; exact alike_any l hl A c a b ha hb w hrow
end Go.Proofs.YtccbfcnnbdgcgaaDoor
