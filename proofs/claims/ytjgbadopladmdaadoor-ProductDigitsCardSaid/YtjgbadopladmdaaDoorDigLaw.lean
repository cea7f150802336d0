/- ProductDigits: for every string the law answers true. -/
import Derived.Test.YtjgbadopladmdaaDoorDigW
namespace Go.Proofs.YtjgbadopladmdaaDoor
open Go.RowKit Go.Shelf

set_option maxHeartbeats 1000000 in
theorem digits_law (s : ByteArray) (w : World) (hs : s.size ≤ maxLen) :
    Calls Tryd.prog 3 #[.string s] w fun e w' => e = .returned (.bool true) ∧ Below w.heap.size w w' := by
  unfold maxLen at hs
  have ht : (s.extract 0 (min (s.size : Int) 20).toNat).size ≤ 1000000 := by
    rw [ByteArray.size_extract]; omega
  go_enter Tryd.func3, Tryd.ntmps3
  go_wp2_with fail
  generalize s.extract 0 (min (s.size : Int) 20).toNat = t at ht ⊢
  go_wp2_with (first
    | (go_at_call 14; refine (check_any _ _ ht).mono ?_; rintro e w1 ⟨rfl, hB1⟩)
    | (go_at_call 15; refine (rcheck_any _ _).mono ?_; rintro e w2 ⟨rfl, rfl⟩)
    | (go_at_call 16; refine (valid_any _ _ ht).mono ?_; rintro e w3 ⟨rfl, hB3⟩)
    | (go_at_call 17; refine (rvalid_any _ _).mono ?_; rintro e w4 ⟨rfl, rfl⟩)
    | (go_at_call 18; refine (awake_any _).mono ?_; rintro e w5 ⟨rfl, hB5⟩))
  go_ret
  exact ⟨rfl, below_trans (below_trans hB1 hB3) hB5⟩
end Go.Proofs.YtjgbadopladmdaaDoor
