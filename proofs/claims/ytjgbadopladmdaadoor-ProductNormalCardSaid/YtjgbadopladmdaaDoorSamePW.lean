/- priceofficeref09.Same over two products that are equal: true. -/
import Derived.Test.YtjgbadopladmdaaDoorEachT
import Derived.Test.YtjgbadopladmdaaDoorChainW
namespace Go.Proofs.YtjgbadopladmdaaDoor
open Go.RowKit
open Rel (Lk)

set_option maxHeartbeats 4000000 in
set_option maxRecDepth 100000 in
theorem same_prod (p : Pr) (A A2 : Option Addr) (n c c2 B : Nat) (L : List Lk) (w : World) (h1 : Recs lc 2 w B A n L) (h2 : Recs lc 2 w B A2 n L) (hB : B ≤ w.heap.size) :
    Calls Tryd.prog 32 #[.agg (pv p (.slice A n c)), .agg (pv p (.slice A2 n c2))] w fun e w' => e = .returned (.bool true) ∧ Below w.heap.size w w' := by
  have hsm := h1.small
  obtain ⟨id, cd, br, d, m, am⟩ := p
  simp only [pv]
  have hb1 := ((Below.refl w.heap.size w).alloc (Nat.le_refl _) (.cells #[.string id, .string cd, .string br, .int .i64 d, .int .i64 m, .int .i64 am, .slice A n c] 50)).alloc (by simp) (.cells #[.string id, .string cd, .string br, .int .i64 d, .int .i64 m, .int .i64 am, .slice A2 n c2] 50)
  have hx := (Blk.new w 50 #[.string id, .string cd, .string br, .int .i64 d, .int .i64 m, .int .i64 am, .slice A n c]).alloc (.cells #[.string id, .string cd, .string br, .int .i64 d, .int .i64 m, .int .i64 am, .slice A2 n c2] 50)
  have hy := Blk.new (w.alloc (.cells #[.string id, .string cd, .string br, .int .i64 d, .int .i64 m, .int .i64 am, .slice A n c] 50)) 50 #[.string id, .string cd, .string br, .int .i64 d, .int .i64 m, .int .i64 am, .slice A2 n c2]
  rw [World.size_alloc] at hy
  have x6 := hx.cell 6
  have y6 := hy.cell 6
  have k1 := h1.below (hb1.mono hB)
  have k2 := h2.below (hb1.mono hB)
  go_enter Tryd.func32, Tryd.ntmps32
  go_wp2
  generalize (w.alloc (.cells #[.string id, .string cd, .string br, .int .i64 d, .int .i64 m, .int .i64 am, .slice A n c] 50)).alloc (.cells #[.string id, .string cd, .string br, .int .i64 d, .int .i64 m, .int .i64 am, .slice A2 n c2] 50) = W at hb1 x6 y6 k1 k2 ⊢
  simp only [List.getElem?_toArray, List.getElem?_cons_zero, List.getElem?_cons_succ] at x6 y6
  clear hx hy h1 h2
  go_loopw [44] (fun i wr => ∃ k : Nat, k ≤ n ∧ i = .int .i64 k ∧ ∃ q, wr = W.drewN q) (fun i _ => n - (intOf i).toNat)
  case atStart => exact ⟨0, Nat.zero_le _, rfl, 0, rfl⟩
  case round =>
    obtain ⟨k, hk, rfl, q, rfl⟩ := hrel
    by_cases hlt : k < n
    · obtain ⟨ad, r, rfl, hab, hR, c0, cj⟩ := k1.at_ lc_len (by omega) hlt
      obtain ⟨ad', r', rfl, hab', hR', d0, dj⟩ := k2.at_ lc_len (by omega) hlt
      rw [hR] at hR'
      obtain rfl := Option.some.inj hR'
      have c1 := cj 1 (by omega) (by omega)
      have d1 := dj 1 (by omega) (by omega)
      obtain ⟨ro, rp⟩ := r
      simp only [lc, List.getElem?_cons_zero, List.getElem?_cons_succ] at c0 c1 d0 d1
      clear cj dj hR hR'
      go_wp2
      go_quiet (fail)
      go_wp2
      go_roundw
      case rel => exact ⟨k + 1, by omega, by go_num, _, rfl⟩
      case measure => simp [intOf]; omega
    · go_wp2
      go_ret
      exact ⟨rfl, below_drewN hb1 q⟩
end Go.Proofs.YtjgbadopladmdaaDoor
