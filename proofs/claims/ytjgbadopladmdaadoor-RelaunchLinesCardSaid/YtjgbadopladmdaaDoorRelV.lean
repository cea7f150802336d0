/- relaunch.Validate and the reference's Validate: both return the plain law's error. -/
import Derived.Test.YtjgbadopladmdaaDoorRelS
import Derived.Test.YtjgbadopladmdaaDoorDigW
namespace Go.Proofs.YtjgbadopladmdaaDoor
open Go.RowKit

/-- do two relaunches share an ID on one side? -/
def share (x r : Rel.Lk) : Bool := (x.1.toList == r.1.toList) || (x.2.toList == r.2.toList)

set_option maxHeartbeats 400000 in
theorem clos_any (o m a b : ByteArray) (lb : Nat) (w : World) (c0 : w.cell? ⟨lb, 0, none⟩ = some (.string o)) (c1 : w.cell? ⟨lb, 1, none⟩ = some (.string m)) :
    Calls Tryd.prog 67 #[.agg #[.string a, .string b], .pointer (some ⟨lb, 0, none⟩)] w fun e w' => e = .returned (.bool (share (a, b) (o, m))) ∧ Below w.heap.size w w' := by
  have hl := World.block_lt_of_cell? w _ c0
  have e0 := fun O : Obj => (World.cell?_alloc_lt w O ⟨lb, 0, none⟩ hl).trans c0
  have e1 := fun O : Obj => (World.cell?_alloc_lt w O ⟨lb, 1, none⟩ hl).trans c1
  unfold share
  cases h1 : (a.toList == o.toList)
  · cases h2 : (b.toList == m.toList)
    · go_enter Tryd.func67, Tryd.ntmps67
      go_wp2
      go_ret
      exact ⟨rfl, (Below.refl _ _).alloc (Nat.le_refl _) _⟩
    · go_enter Tryd.func67, Tryd.ntmps67
      go_wp2
      go_ret
      exact ⟨rfl, (Below.refl _ _).alloc (Nat.le_refl _) _⟩
  · go_enter Tryd.func67, Tryd.ntmps67
    go_wp2
    go_ret
    exact ⟨by simp, (Below.refl _ _).alloc (Nat.le_refl _) _⟩

/-- what a search hands back: a place just if there is one -/
def Found (w : World) (b : Bool) (e : Ending) (w' : World) : Prop := ∃ z : Int, e = .returned (.int .i64 z) ∧ decide (0 ≤ z) = b ∧ -1 ≤ z ∧ Below w.heap.size w w'

theorem any_take_next {L : List Rel.Lk} {k : Nat} {a b : ByteArray} {r : Rel.Lk} (h : L[k]? = some (a, b)) (h1 : (L.take k).any (fun x => share x r) = false) (h2 : share (a, b) r = false) : (L.take (k + 1)).any (fun x => share x r) = false := by
  rw [Rel.take_at h, List.any_append, h1]; simp [h2]
theorem any_hit {L : List Rel.Lk} {k : Nat} {a b : ByteArray} {r : Rel.Lk} (h : L[k]? = some (a, b)) (h2 : share (a, b) r = true) : L.any (fun x => share x r) = true :=
  List.any_eq_true.2 ⟨_, List.mem_of_getElem? h, h2⟩

set_option maxHeartbeats 1000000 in
theorem index_any (A : Option Addr) (n c B : Nat) (L : List Rel.Lk) (o m : ByteArray) (lb : Nat) (w : World) (h : Links w B A n L) (hB : B ≤ w.heap.size)
    (c0 : w.cell? ⟨lb, 0, none⟩ = some (.string o)) (c1 : w.cell? ⟨lb, 1, none⟩ = some (.string m)) :
    Calls Tryd.prog 82 #[.slice A n c, .func (.func 67) #[] #[.pointer (some ⟨lb, 0, none⟩)]] w (Found w (L.any fun x => share x (o, m))) := by
  have hsm := h.small
  have hl := World.block_lt_of_cell? w _ c0
  go_enter Tryd.func82, Tryd.ntmps82
  go_wp2
  go_loopw [8] (fun i wr => ∃ k : Nat, k ≤ n ∧ i = .int .i64 k ∧ Hid ((L.take k).any (fun x => share x (o, m)) = false) ∧ Below w.heap.size w wr) (fun i _ => n - (intOf i).toNat)
  case atStart => exact ⟨0, Nat.zero_le _, rfl, rfl, Below.refl _ _⟩
  case round =>
    obtain ⟨k, hk, rfl, Hb, hb⟩ := hrel
    by_cases hlt : k < n
    · obtain ⟨ad, a, b, rfl, hab, hL, d0, d1, hs0, hs1⟩ := (h.below (hb.mono hB)).at_ hlt
      have HL := hide hL
      have hz := hb.size
      have hcon := clos_any o m a b lb wr ((hb.cell (p := ⟨lb, 0, none⟩) hl).trans c0) ((hb.cell (p := ⟨lb, 1, none⟩) hl).trans c1)
      clear hL
      cases hsh : share (a, b) (o, m)
      · rw [hsh] at hcon
        have Hsh := hide hsh
        clear hsh
        go_wp2_with (go_at_call 67; refine hcon.mono ?_; rintro e w1 ⟨rfl, hB1⟩)
        go_roundw
        case rel => exact ⟨k + 1, by omega, by go_num, any_take_next HL.out Hb.out Hsh.out, hb.trans (hB1.mono hz)⟩
        case measure => simp [intOf]; omega
      · rw [hsh] at hcon
        have Hsh := hide hsh
        clear hsh
        go_wp2_with (go_at_call 67; refine hcon.mono ?_; rintro e w1 ⟨rfl, hB1⟩)
        go_ret
        exact ⟨_, rfl, by rw [any_hit HL.out Hsh.out]; simp, by omega, hb.trans (hB1.mono hz)⟩
    · go_wp2
      go_ret
      have hn := h.len
      have e := Hb.out
      rw [List.take_of_length_le (by omega)] at e
      exact ⟨_, rfl, by rw [e]; rfl, by omega, hb⟩

set_option maxHeartbeats 400000 in
theorem contains_any (A : Option Addr) (n c B : Nat) (L : List Rel.Lk) (o m : ByteArray) (lb : Nat) (w : World) (h : Links w B A n L) (hB : B ≤ w.heap.size)
    (c0 : w.cell? ⟨lb, 0, none⟩ = some (.string o)) (c1 : w.cell? ⟨lb, 1, none⟩ = some (.string m)) :
    Calls Tryd.prog 66 #[.slice A n c, .func (.func 67) #[] #[.pointer (some ⟨lb, 0, none⟩)]] w fun e w' => e = .returned (.bool (L.any fun x => share x (o, m))) ∧ Below w.heap.size w w' := by
  have hcon := index_any A n c B L o m lb w h hB c0 c1
  generalize (L.any fun x => share x (o, m)) = r at hcon
  go_enter Tryd.func66, Tryd.ntmps66
  go_wp2_with (go_at_call 82; refine hcon.mono ?_; rintro e w1 ⟨z, rfl, hz, hz1, hB1⟩)
  go_ret
  exact ⟨ret_b rfl, hB1⟩
end Go.Proofs.YtjgbadopladmdaaDoor
