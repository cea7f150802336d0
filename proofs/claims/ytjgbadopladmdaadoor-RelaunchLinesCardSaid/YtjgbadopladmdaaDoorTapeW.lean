/- The walks of priceofficemake.Fold and of Tape.Next. -/
import Derived.Test.YtjgbadopladmdaaDoorProg
import Derived.Test.YtjgbadopladmdaaDoorMem
import Derived.WalkLawsBesides
import Derived.WalkSpells
import Derived.Outline
import Derived.Handy
import Derived.Deep.Light
import Derived.Deep.QuietTactic
import Derived.BigQuiet
namespace Go.Proofs.YtjgbadopladmdaaDoor
open Go.RowKit

/-- a raw number brought to 0 .. n - 1 -/
def fld (v n : Int) : Int := v % 18446744073709551616 % n
theorem fld_bd (v n : Int) (h : 1 ≤ n) : 0 ≤ fld v n ∧ fld v n < n := by
  unfold fld
  exact ⟨Int.emod_nonneg _ (by omega), Int.emod_lt_of_pos _ (by omega)⟩

theorem ret_i {a c : Int} (h : a = c) : Ending.returned (.int .i64 a) = Ending.returned (.int .i64 c) := by rw [h]
theorem fld_is (v n : Int) (h1 : 1 ≤ n) (h2 : n ≤ 1000000000) : wrap64 ((IntKind.u64.wrap v).tmod n) = fld v n := by
  have hb := fld_bd v n h1
  rw [IntKind.wrap_u64, Int.tmod_eq_emod_of_nonneg (Int.emod_nonneg _ (by omega))]
  show wrap64 (fld v n) = fld v n
  unfold wrap64
  omega

set_option maxHeartbeats 400000 in
theorem fold_any (v n : Int) (w : World) (h1 : 1 ≤ n) (h2 : n ≤ 1000000000) :
    Calls Tryd.prog 19 #[.int .i64 v, .int .i64 n] w fun e w' => e = .returned (.int .i64 (fld v n)) ∧ w = w' := by
  go_enter Tryd.func19, Tryd.ntmps19
  go_wp2
  go_ret
  exact ⟨ret_i (fld_is v n h1 h2), rfl⟩

/-- the tape in block g: a list of ints that was there at the call, and a place of at most j -/
def Tape (w : World) (B g j : Nat) : Prop :=
  ∃ (A : Option Addr) (n c k : Nat) (zs : List Int), Blk w g 34 #[.slice A n c, .int .i64 (k : Int)] ∧ k ≤ j ∧ Reads w B 1 A n (zs.map (Value.int .i64)) ∧ B ≤ g ∧ n ≤ maxLen

/-- what a step of the tape leaves: a number from 0 to m - 1, the tape one place further, all else as it was -/
def Stepped (w : World) (B g j : Nat) (m : Int) (e : Ending) (w' : World) : Prop :=
  ∃ v : Int, e = .returned (.int .i64 v) ∧ 0 ≤ v ∧ v < m ∧ Tape w' B g (j + 1) ∧ w.grownBy w' (some g)

theorem stepped_mk {w : World} {B g j : Nat} {m u v : Int} {A : Option Addr} {n c k : Nat} {zs : List Int} (hb : Blk w g 34 #[.slice A n c, .int .i64 (k : Int)]) (hk : k ≤ j)
    (hr : Reads w B 1 A n (zs.map (Value.int .i64))) (hB : B ≤ g) (hn : n ≤ 2 ^ 63 - 1) (hu : u = v) (hv : 0 ≤ v ∧ v < m) (q : Nat) :
    Stepped w B g j m (.returned (.int .i64 u)) ((w.drewN q).setCell ⟨g, 1, none⟩ (.int .i64 ((k : Int) + 1))) := by
  subst hu
  refine ⟨u, rfl, hv.1, hv.2, ⟨A, n, c, k + 1, zs, ?_, by omega, ?_, hB, hn⟩, only_setCell (only_drewN (World.grownBy.refl w _) q) (.inl rfl) _⟩
  · exact (hb.drewN q).set_ 1 _
  · exact (hr.drewN q).setCell (p := ⟨g, 1, none⟩) hB _

set_option maxHeartbeats 400000 in
theorem next_any (g j B : Nat) (m : Int) (w : World) (ht : Tape w B g j) (hj : j ≤ 1000000) (h1 : 1 ≤ m) (h2 : m ≤ 1000000000) :
    Calls Tryd.prog 49 #[.pointer (some ⟨g, 0, none⟩), .int .i64 m] w (Stepped w B g j m) := by
  obtain ⟨A, n, c, k, zs, hb, hk, hr, hB, hn⟩ := ht
  unfold maxLen at hn
  have c0 := hb.cell 0
  have c1 := hb.cell 1
  have f1 := hb.frozen 1
  simp at c0 c1
  by_cases hlt : k < n
  · obtain ⟨ad, u, rfl, hab, hu, hcell⟩ := hr.at_ hlt
    obtain ⟨z, hz, rfl⟩ : ∃ z, zs[k]? = some z ∧ u = .int .i64 z := by
      rw [List.getElem?_map] at hu
      cases h : zs[k]? with
      | none => rw [h] at hu; cases hu
      | some z => rw [h] at hu; exact ⟨z, rfl, (Option.some.inj hu).symm⟩
    go_enter Tryd.func49, Tryd.ntmps49
    go_wp2
    go_quiet (fail)
    go_wp2
    go_quiet (fail)
    go_wp2
    go_ret
    exact stepped_mk hb hk hr hB hn (fld_is z m h1 h2) (fld_bd z m h1) _
  · have hnot : decide ((k : Int) < (n : Int)) = false := by simp; omega
    go_enter Tryd.func49, Tryd.ntmps49
    go_wp2
    go_quiet (fail)
    go_wp2
    go_ret
    exact stepped_mk hb hk hr hB hn rfl ⟨Int.le_refl 0, by omega⟩ _
end Go.Proofs.YtjgbadopladmdaaDoor
