/- relaunch.sides: the two maps of a list of relaunches. -/
import Derived.Test.YtjgbadopladmdaaDoorRelW
namespace Go.Proofs.YtjgbadopladmdaaDoor
open Go.RowKit

/-- what 'sides' leaves: two new maps -/
def Sided (w : World) (L : List Rel.Lk) (e : Ending) (w' : World) : Prop :=
  ∃ b1 b2 : Nat, e = .returned (.tuple #[.map (some b1), .map (some b2)]) ∧ w.heap.size ≤ b1 ∧ w.heap.size ≤ b2 ∧ SMap w' b1 L.length (Rel.forth L) ∧ SMap w' b2 L.length (Rel.back L) ∧ Below w.heap.size w w'

theorem SMap.drew {w : World} {b n : Nat} {f : ByteArray → Option ByteArray} (h : SMap w b n f) : SMap w.drew b n f := h

set_option maxHeartbeats 1000000 in
theorem sides_any (A : Option Addr) (n c B : Nat) (L : List Rel.Lk) (w : World) (h : Links w B A n L) (hB : B ≤ w.heap.size) (hu : Rel.Uniq L) :
    Calls Tryd.prog 51 #[.slice A n c] w (Sided w L) := by
  have hsm := h.small
  have Hu := hide hu
  clear hu
  have hmm := @run_makeMap Tryd.prog
  go_enter Tryd.func51, Tryd.ntmps51
  go_wp2
  go_loopw [10] (fun i wr => ∃ k : Nat, k ≤ n ∧ i = .int .i64 k ∧ SMap wr w.heap.size k (Rel.forth (L.take k)) ∧ SMap wr (w.heap.size + 1) k (Rel.back (L.take k)) ∧ Below w.heap.size w wr) (fun i _ => n - (intOf i).toNat)
  case atStart =>
    refine ⟨0, Nat.zero_le _, rfl, ?_, ?_, ((Below.refl _ _).alloc (Nat.le_refl _) _).alloc (by simp) _⟩
    · exact ((SMap.made w).alloc _).congr (fun s => rfl)
    · have := SMap.made (w.alloc (.map #[] 0))
      simp only [World.size_alloc] at this
      exact this.congr (fun s => rfl)
  case round =>
    obtain ⟨k, hk, rfl, hm1, hm2, hb⟩ := hrel
    by_cases hlt : k < n
    · obtain ⟨ad, o, m, rfl, hab, hL, c0, c1, hs0, hs1⟩ := (h.below (hb.mono hB)).at_ hlt
      have HL := hide hL
      have hz := hb.size
      clear hL
      have hmx : ∀ s : ByteArray, s.size ≤ 1000 → s.size ≤ maxLen := fun s hs => by unfold maxLen; omega
      obtain ⟨w1, r1, p1, g1⟩ := ((hm1.alloc (.cells #[.string o, .string m] 74)).drew).put_run (by unfold maxLen; omega) o m (hmx o hs0) (hmx m hs1)
      obtain ⟨w2, r2, p2, g2⟩ := (((hm2.alloc (.cells #[.string o, .string m] 74)).drew).kept g1 (by simp)).put_run (by unfold maxLen; omega) m o (hmx m hs1) (hmx o hs0)
      have q1 := p1.kept g2 (by simp)
      have hlt1 := hm1.lt
      have hnew : ∀ j, w1.cell? ⟨wr.heap.size, j, none⟩ = (#[Value.string o, Value.string m] : Array Value)[j]? := fun j =>
        (World.cell?_of_block (g1.block wr.heap.size (by simp) (by simp; omega))).trans (World.cell?_alloc_mark wr _ 74 (0, 0) j)
      have d0 := hnew 0
      have d1 := hnew 1
      simp at d0 d1
      clear hnew
      have hbz : Below w.heap.size w w2 := ((((hb.alloc hz _).drew).grown g1 (by simp; omega) (fun g hg => by simp at hg; omega))).grown g2 (Nat.le_trans (by simp; omega) g1.size) (fun g hg => by simp at hg; omega)
      have Q1 := hide q1
      have P2 := hide p2
      clear q1 p1 p2 g1 g2
      go_wp2
      go_region
      go_wp2
      go_roundw
      case rel => exact ⟨k + 1, by omega, by go_num, Q1.out.congr (fun s => (Rel.forth_take_next Hu.out HL.out s).symm), P2.out.congr (fun s => (Rel.back_take_next Hu.out HL.out s).symm), hbz⟩
      case measure => simp [intOf]; omega
    · go_wp2
      go_ret2
      have hl := h.len
      rw [List.take_of_length_le (by omega)] at hm1 hm2
      exact ⟨_, _, rfl, Nat.le_refl _, by omega, hm1.mono (by omega), hm2.mono (by omega), hb⟩
end Go.Proofs.YtjgbadopladmdaaDoor
