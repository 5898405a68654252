/- An arena that is none hands nothing out: the law's walk. -/
import Derived.Test.YtdjmjdfkblhgdaaArAwake
namespace Go.Proofs.Ytdjmjdfkblhgdaa
open Go.RowKit
set_option maxHeartbeats 4000000 in
theorem arenaNil_any (id i : Int) (w : World) : Calls Try.prog 5 #[.int .i64 id, .int .i64 i] w fun e w' => e = .returned (.bool true) ∧ Below w.heap.size w w' := by
  go_enter Try.func5, Try.ntmps5
  go_wp2_with fail
  refine (wipe_nil w).mono ?_
  rintro e _ ⟨rfl, rfl⟩
  go_wp2_with fail
  refine (alloc_nil i w).mono ?_
  rintro e _ ⟨rfl, rfl⟩
  go_wp2_with fail
  refine (get_nil id i w).mono ?_
  rintro e w1 ⟨rfl, hb1⟩
  go_wp2_with fail
  refine (awake_any w1).mono ?_
  rintro e w2 ⟨rfl, hb2⟩
  go_wp2_with fail
  refine (free_nil id w2).mono ?_
  rintro e w3 ⟨rfl, hb3⟩
  go_wp2_with fail
  refine (set_nil id i 1 w3).mono ?_
  rintro e w4 ⟨rfl, hb4⟩
  go_wp2_with fail
  refine (len_nilA id w4).mono ?_
  rintro e w5 ⟨rfl, hb5⟩
  go_wp2_with fail
  refine (base_nilA id w5).mono ?_
  rintro e w6 ⟨rfl, hb6⟩
  go_wp2_with fail
  refine (left_nil w6).mono ?_
  rintro e _ ⟨rfl, rfl⟩
  go_wp2_with fail
  refine (clean_nil w6).mono ?_
  rintro e _ ⟨rfl, rfl⟩
  go_wp2
  go_returns
  exact ⟨rfl, below_all hb1 (below_all hb2 (below_all hb3 (below_all hb4 (below_all hb5 hb6))))⟩
end Go.Proofs.Ytdjmjdfkblhgdaa
