/- The walks of the small functions of both relaunch packages: back, forth, first, sides, start. -/
import Derived.Test.YtjgbadopladmdaaDoorMapW
import Derived.Test.YtjgbadopladmdaaDoorRelP
import Derived.Test.YtjgbadopladmdaaDoorRecW
import Derived.WalkLawsBesides
import Derived.WalkSpells
import Derived.Outline
import Derived.Handy
import Derived.Deep.Light
import Derived.Deep.QuietTactic
import Derived.BigQuiet
import Derived.BigRegion
import Derived.Deep.DeepCutAuto
import Derived.Deep.LoopGhost
namespace Go.Proofs.YtjgbadopladmdaaDoor
open Go.RowKit

/-- a relaunch as cells -/
def lc (r : Rel.Lk) : List Value := [.string r.1, .string r.2]
/-- what is known of a slice of relaunches that reads as L: short strings -/
structure Links (w : World) (B : Nat) (A : Option Addr) (n : Nat) (L : List Rel.Lk) : Prop where
  reads : Reads w B 2 A n (L.flatMap lc)
  len : n = L.length
  short : ∀ r ∈ L, r.1.size ≤ 1000 ∧ r.2.size ≤ 1000
  small : n ≤ 100000

theorem flat_get : ∀ (L : List Rel.Lk) (k : Nat) (r : Rel.Lk), L[k]? = some r → (L.flatMap lc)[k * 2]? = some (.string r.1) ∧ (L.flatMap lc)[k * 2 + 1]? = some (.string r.2)
  | [], k, r, h => by simp at h
  | a :: L, 0, r, h => by
    obtain rfl : a = r := by simpa using h
    exact ⟨rfl, rfl⟩
  | a :: L, k + 1, r, h => by
    have := flat_get L k r (by simpa using h)
    rw [List.flatMap_cons]
    have e1 : (k + 1) * 2 = k * 2 + 2 := by omega
    have e2 : (k + 1) * 2 + 1 = (k * 2 + 1) + 2 := by omega
    rw [e2, e1, List.getElem?_append_right (by simp [lc]), List.getElem?_append_right (by simp [lc])]
    simpa [lc] using this

theorem Links.at_ {w : World} {B n : Nat} {A : Option Addr} {L : List Rel.Lk} (h : Links w B A n L) {k : Nat} (hk : k < n) :
    ∃ (ad : Addr) (o m : ByteArray), A = some ad ∧ ad.block < B ∧ L[k]? = some (o, m) ∧ w.cell? (ad.add (k * 2)) = some (.string o) ∧ w.cell? ⟨(ad.add (k * 2)).block, (ad.add (k * 2)).off + 1, none⟩ = some (.string m) ∧ o.size ≤ 1000 ∧ m.size ≤ 1000 := by
  obtain ⟨ad, e, hb, hc⟩ := h.reads.2 (by omega)
  have hl := h.len
  have hr : L[k]? = some (L[k]'(by omega)) := List.getElem?_eq_getElem (by omega)
  have h2 := flat_get L k _ hr
  have h3 := h.short _ (List.getElem_mem (show k < L.length by omega))
  exact ⟨ad, (L[k]'(by omega)).1, (L[k]'(by omega)).2, e, hb, hr, hc _ _ h2.1, by rw [← add_next ad (k * 2) 1 (by omega)]; exact hc _ _ h2.2, h3.1, h3.2⟩
theorem Links.keep {w w' : World} {B n : Nat} {A : Option Addr} {L : List Rel.Lk} (h : Links w B A n L) (hk : ∀ p : Addr, p.block < B → w'.cell? p = w.cell? p) : Links w' B A n L := ⟨h.reads.keep hk, h.len, h.short, h.small⟩
theorem Links.below {w w' : World} {B n : Nat} {A : Option Addr} {L : List Rel.Lk} (h : Links w B A n L) (hb : Below B w w') : Links w' B A n L := h.keep fun _ hp => hb.cell hp
theorem Links.more {w : World} {B B' n : Nat} {A : Option Addr} {L : List Rel.Lk} (h : Links w B A n L) (hb : B ≤ B') : Links w B' A n L := ⟨h.reads.more hb, h.len, h.short, h.small⟩

theorem str_eq (s t : ByteArray) : (s.toList == t.toList) = decide (s = t) := by
  rw [Lib.toList_data, Lib.toList_data, Bool.eq_iff_iff, beq_iff_eq, decide_eq_true_eq]
  exact ⟨bytes_eq_of, fun h => by rw [h]⟩

theorem drop_at {L : List Rel.Lk} {k : Nat} {r : Rel.Lk} (h : L[k]? = some r) : L.drop k = r :: L.drop (k + 1) := by
  obtain ⟨hk, e⟩ := List.getElem?_eq_some_iff.1 h
  rw [List.drop_eq_getElem_cons hk, e]
theorem back_hit {L : List Rel.Lk} {k : Nat} {o m id : ByteArray} (h : L[k]? = some (o, m)) (e : (m.toList == id.toList) = true) : Rel.back (L.drop k) id = some o := by
  rw [str_eq, decide_eq_true_eq] at e
  rw [drop_at h]; unfold Rel.back
  rw [List.find?_cons_of_pos (by simpa using e)]; rfl
theorem back_miss {L : List Rel.Lk} {k : Nat} {o m id : ByteArray} (h : L[k]? = some (o, m)) (e : (m.toList == id.toList) = false) : Rel.back (L.drop k) id = Rel.back (L.drop (k + 1)) id := by
  rw [str_eq, decide_eq_false_iff_not] at e
  rw [drop_at h]; unfold Rel.back
  rw [List.find?_cons_of_neg (by simpa using e)]
theorem forth_hit' {L : List Rel.Lk} {k : Nat} {o m id : ByteArray} (h : L[k]? = some (o, m)) (e : (o.toList == id.toList) = true) : Rel.forth (L.drop k) id = some m := by
  rw [str_eq, decide_eq_true_eq] at e
  rw [drop_at h]; unfold Rel.forth
  rw [List.find?_cons_of_pos (by simpa using e)]; rfl
theorem forth_miss {L : List Rel.Lk} {k : Nat} {o m id : ByteArray} (h : L[k]? = some (o, m)) (e : (o.toList == id.toList) = false) : Rel.forth (L.drop k) id = Rel.forth (L.drop (k + 1)) id := by
  rw [str_eq, decide_eq_false_iff_not] at e
  rw [drop_at h]; unfold Rel.forth
  rw [List.find?_cons_of_neg (by simpa using e)]
theorem ret_sb {a c : ByteArray} {b d : Bool} (h : a = c) (h' : b = d) : Ending.returned (.tuple #[.string a, .bool b]) = Ending.returned (.tuple #[.string c, .bool d]) := by rw [h, h']
theorem ret_s {a c : ByteArray} (h : a = c) : Ending.returned (.string a) = Ending.returned (.string c) := by rw [h]

set_option maxHeartbeats 400000 in
theorem back_any (A : Option Addr) (n c B : Nat) (L : List Rel.Lk) (id : ByteArray) (w : World) (h : Links w B A n L) (hB : B ≤ w.heap.size) :
    Calls Tryd.prog 68 #[.slice A n c, .string id] w fun e w' => e = .returned (.tuple #[.string ((Rel.back L id).getD ⟨#[]⟩), .bool (Rel.back L id).isSome]) ∧ Below w.heap.size w w' := by
  have hsm := h.small
  go_enter Tryd.func68, Tryd.ntmps68
  go_wp2
  go_loopw [10] (fun i wr => ∃ k : Nat, k ≤ n ∧ i = .int .i64 k ∧ Hid (Rel.back L id = Rel.back (L.drop k) id) ∧ Below w.heap.size w wr) (fun i _ => n - (intOf i).toNat)
  case atStart => exact ⟨0, Nat.zero_le _, rfl, rfl, Below.refl _ _⟩
  case round =>
    obtain ⟨k, hk, rfl, Hb, hb⟩ := hrel
    by_cases hlt : k < n
    · obtain ⟨ad, o, m, rfl, hab, hL, c0, c1, hs0, hs1⟩ := (h.below (hb.mono hB)).at_ hlt
      have HL := hide hL
      have hz := hb.size
      clear hL
      go_wp2
      · go_ret2
        have e := Hb.out.trans (back_hit HL.out ‹_›)
        exact ⟨ret_sb (by rw [e]; rfl) (by rw [e]; rfl), hb.alloc hz _⟩
      · go_roundw
        case rel => exact ⟨k + 1, by omega, by go_num, Hb.out.trans (back_miss HL.out ‹_›), hb.alloc hz _⟩
        case measure => simp [intOf]; omega
    · go_wp2
      go_ret2
      have e : Rel.back L id = none := by
        have hl := h.len
        rw [Hb.out, List.drop_of_length_le (by omega)]; rfl
      exact ⟨ret_sb (by rw [e]; rfl) (by rw [e]; rfl), hb⟩

set_option maxHeartbeats 400000 in
theorem forth_any (A : Option Addr) (n c B : Nat) (L : List Rel.Lk) (id : ByteArray) (w : World) (h : Links w B A n L) (hB : B ≤ w.heap.size) :
    Calls Tryd.prog 71 #[.slice A n c, .string id] w fun e w' => e = .returned (.tuple #[.string ((Rel.forth L id).getD ⟨#[]⟩), .bool (Rel.forth L id).isSome]) ∧ Below w.heap.size w w' := by
  have hsm := h.small
  go_enter Tryd.func71, Tryd.ntmps71
  go_wp2
  go_loopw [10] (fun i wr => ∃ k : Nat, k ≤ n ∧ i = .int .i64 k ∧ Hid (Rel.forth L id = Rel.forth (L.drop k) id) ∧ Below w.heap.size w wr) (fun i _ => n - (intOf i).toNat)
  case atStart => exact ⟨0, Nat.zero_le _, rfl, rfl, Below.refl _ _⟩
  case round =>
    obtain ⟨k, hk, rfl, Hb, hb⟩ := hrel
    by_cases hlt : k < n
    · obtain ⟨ad, o, m, rfl, hab, hL, c0, c1, hs0, hs1⟩ := (h.below (hb.mono hB)).at_ hlt
      have HL := hide hL
      have hz := hb.size
      clear hL
      go_wp2
      · go_ret2
        have e := Hb.out.trans (forth_hit' HL.out ‹_›)
        exact ⟨ret_sb (by rw [e]; rfl) (by rw [e]; rfl), hb.alloc hz _⟩
      · go_roundw
        case rel => exact ⟨k + 1, by omega, by go_num, Hb.out.trans (forth_miss HL.out ‹_›), hb.alloc hz _⟩
        case measure => simp [intOf]; omega
    · go_wp2
      go_ret2
      have e : Rel.forth L id = none := by
        have hl := h.len
        rw [Hb.out, List.drop_of_length_le (by omega)]; rfl
      exact ⟨ret_sb (by rw [e]; rfl) (by rw [e]; rfl), hb⟩

set_option maxHeartbeats 400000 in
/-- the reference's first, over a valid list -/
theorem first_any (A : Option Addr) (n c B : Nat) (L : List Rel.Lk) (id : ByteArray) (w : World) (h : Links w B A n L) (hB : B ≤ w.heap.size) (hu : Rel.Good L) :
    Calls Tryd.prog 53 #[.slice A n c, .string id] w fun e w' => e = .returned (.string (Rel.line L id)) ∧ Below w.heap.size w w' := by
  have Hu := hide hu
  clear hu
  go_enter Tryd.func53, Tryd.ntmps53
  go_wp2
  go_loopg [1] L.length (fun g x wr => ∃ cur, x = .string cur ∧ Hid (Rel.Going L id g cur) ∧ Below w.heap.size w wr)
  case atStart => exact ⟨id, rfl, Rel.going_start L id, Below.refl _ _⟩
  case round =>
    obtain ⟨cur, rfl, Hg, hb⟩ := hrel
    have hcon := back_any A n c B L cur wr (h.below (hb.mono hB)) (Nat.le_trans hB hb.size)
    have hz := hb.size
    cases hbk : Rel.back L cur with
    | none =>
      rw [hbk] at hcon
      have Hbk := hide hbk
      clear hbk
      go_wp2_with (go_at_call 68; refine hcon.mono ?_; rintro e w1 ⟨rfl, hB1⟩)
      go_ret
      exact ⟨ret_s (Rel.going_end Hg.out Hbk.out).symm, hb.trans (hB1.mono hz)⟩
    | some o =>
      rw [hbk] at hcon
      have Hbk := hide hbk
      clear hbk
      obtain ⟨g', e, hg'⟩ := Rel.going_next Hu.out Hg.out Hbk.out
      have He := hide e
      have Hg' := hide hg'
      clear e hg'
      go_wp2_with (go_at_call 68; refine hcon.mono ?_; rintro e w1 ⟨rfl, hB1⟩)
      go_roundg g'
      case measure => have := He.out; omega
      case rel => exact ⟨o, rfl, Hg'.out, hb.trans (hB1.mono hz)⟩

set_option maxHeartbeats 400000 in
/-- the program's start, over the map of a valid list -/
theorem start_any (b n : Nat) (L : List Rel.Lk) (id : ByteArray) (w : World) (hm : SMap w b n (Rel.back L)) (hu : Rel.Good L) (hs : id.size ≤ maxLen) (hL : ∀ r ∈ L, r.1.size ≤ 1000 ∧ r.2.size ≤ 1000) :
    Calls Tryd.prog 52 #[.map (some b), .string id] w fun e w' => e = .returned (.string (Rel.line L id)) ∧ w = w' := by
  have Hu := hide hu
  have HL := hide hL
  clear hu hL
  go_enter Tryd.func52, Tryd.ntmps52
  go_wp2
  go_loopg [1] L.length (fun g x wr => ∃ cur, x = .string cur ∧ Hid (Rel.Going L id g cur) ∧ w = wr ∧ cur.size ≤ maxLen)
  case atStart => exact ⟨id, rfl, Rel.going_start L id, rfl, hs⟩
  case round =>
    obtain ⟨cur, rfl, Hg, rfl, hcs⟩ := hrel
    cases hbk : Rel.back L cur with
    | none =>
      have Hbk := hide hbk
      clear hbk
      go_wp2_with (at_lookup; refine wpList_look w rfl _ _ rfl b n _ rfl hm cur rfl hcs ?_; intro v _ hv; rw [Hbk.out]; clear hv)
      go_ret
      exact ⟨ret_s (Rel.going_end Hg.out Hbk.out).symm, rfl⟩
    | some o =>
      have Hbk := hide hbk
      clear hbk
      obtain ⟨g', e, hg'⟩ := Rel.going_next Hu.out Hg.out Hbk.out
      have hos : o.size ≤ maxLen := by
        have := (HL.out _ (Rel.back_mem Hbk.out)).1
        unfold maxLen; simp only at this; omega
      have He := hide e
      have Hg' := hide hg'
      clear e hg'
      go_wp2_with (at_lookup; refine wpList_look w rfl _ _ rfl b n _ rfl hm cur rfl hcs ?_; intro v _ hv; obtain rfl := hv o Hbk.out; rw [Hbk.out]; clear hv)
      go_roundg g'
      case measure => have := He.out; omega
      case rel => exact ⟨v, rfl, Hg'.out, rfl, hos⟩
end Go.Proofs.YtjgbadopladmdaaDoor
