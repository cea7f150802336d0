/- SameRows over two slices that read as one list: true. -/
import Derived.Test.YtjgbadopladmdaaDoorRecW
import Derived.WalkLawsBesides
import Derived.WalkSpells
import Derived.Outline
import Derived.Handy
import Derived.Deep.Light
import Derived.Deep.QuietTactic
import Derived.BigQuiet
namespace Go.Proofs.YtjgbadopladmdaaDoor
open Go.RowKit

set_option maxHeartbeats 4000000 in
theorem same_rows (A A2 : Option Addr) (n c c2 B : Nat) (R : List Rw) (w : World) (h1 : Recs rc 5 w B A n R) (h2 : Recs rc 5 w B A2 n R) :
    Calls Tryd.prog 24 #[.slice A n c, .slice A2 n c2] w fun e w' => e = .returned (.bool true) ∧ Below w.heap.size w w' := by
  have hsm := h1.small
  go_enter Tryd.func24, Tryd.ntmps24
  go_wp2
  go_loopw [13] (fun i wr => ∃ k : Nat, k ≤ n ∧ i = .int .i64 k ∧ ∃ q, wr = w.drewN q) (fun i _ => n - (intOf i).toNat)
  case atStart => exact ⟨0, Nat.zero_le _, rfl, 0, rfl⟩
  case round =>
    obtain ⟨k, hk, rfl, q, rfl⟩ := hrel
    by_cases hlt : k < n
    · obtain ⟨ad, r, rfl, hab, hR, c0, cj⟩ := h1.at_ rc_len (by omega) hlt
      obtain ⟨ad', r', rfl, hab', hR', d0, dj⟩ := h2.at_ rc_len (by omega) hlt
      rw [hR] at hR'
      obtain rfl := Option.some.inj hR'
      have c1 := cj 1 (by omega) (by omega)
      have c2 := cj 2 (by omega) (by omega)
      have c3 := cj 3 (by omega) (by omega)
      have c4 := cj 4 (by omega) (by omega)
      have d1 := dj 1 (by omega) (by omega)
      have d2 := dj 2 (by omega) (by omega)
      have d3 := dj 3 (by omega) (by omega)
      have d4 := dj 4 (by omega) (by omega)
      obtain ⟨ro, rp, ra, rb, rcc⟩ := r
      simp only [rc, List.getElem?_cons_zero, List.getElem?_cons_succ] at c0 c1 c2 c3 c4 d0 d1 d2 d3 d4
      clear cj dj hR hR'
      go_wp2
      go_quiet (fail)
      go_wp2
      go_roundw
      case rel => exact ⟨k + 1, by omega, by go_num, _, rfl⟩
      case measure => simp [intOf]; omega
    · go_wp2
      go_ret
      exact ⟨rfl, below_drewN (Below.refl _ _) q⟩
end Go.Proofs.YtjgbadopladmdaaDoor
