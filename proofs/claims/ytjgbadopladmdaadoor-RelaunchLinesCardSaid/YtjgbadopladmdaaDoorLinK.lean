/- The walks of strings.Compare, the closure that compares two lines, SameStrings and SameLists. -/
import Derived.Test.YtjgbadopladmdaaDoorRelW
import Derived.Test.YtjgbadopladmdaaDoorLinP
import Derived.Lib.Bytealg
import Derived.Lib.Walk
import Derived.Deep.RegionWith
namespace Go.Proofs.YtjgbadopladmdaaDoor
open Go.RowKit

set_option maxHeartbeats 1000000 in
set_option maxRecDepth 100000 in
theorem cmp76_any (a b : ByteArray) (w : World) : Calls Tryd.prog 76 #[.string a, .string b] w fun e w' => e = .returned (.int .i64 (Lib.compareBytes a.data.toList b.data.toList)) ∧ w = w' := by
  go_enter Tryd.func76, Tryd.ntmps76
  go_wp2
  rw [run_callFunc_extern Tryd.func93 (by kernel_rfl) (by kernel_rfl) (e := Extern.BytealgCompare.compare) (by kernel_rfl), Lib.run_compareString]
  simp only [Result.andThen]
  rw [Oper.upon_value]
  go_wp2
  go_ret
  exact ⟨rfl, rfl⟩
  case he => kernel_rfl
theorem cmp56_any (a b : ByteArray) (w : World) : Calls Tryd.prog 56 #[.string a, .string b] w fun e w' => e = .returned (.int .i64 (Lib.compareBytes a.data.toList b.data.toList)) ∧ w = w' := by
  go_enter Tryd.func56, Tryd.ntmps56
  go_wp2_with (go_at_call 76; refine (cmp76_any _ _ _).mono ?_; rintro e w' ⟨rfl, rfl⟩)
  go_ret
  exact ⟨rfl, rfl⟩

set_option maxHeartbeats 1000000 in
theorem clos70_any (g1 g2 n1 n2 c1 c2 : Nat) (s1 s2 : ByteArray) (w : World) (p1 : 0 < n1) (p2 : 0 < n2) (a0 : w.cell? ⟨g1, 0, none⟩ = some (.string s1)) (b0 : w.cell? ⟨g2, 0, none⟩ = some (.string s2)) :
    Calls Tryd.prog 70 #[.slice (some ⟨g1, 0, none⟩) n1 c1, .slice (some ⟨g2, 0, none⟩) n2 c2] w fun e w' => e = .returned (.int .i64 (Lib.compareBytes s1.data.toList s2.data.toList)) ∧ ∃ q, w' = w.drewN q := by
  generalize hz : Lib.compareBytes s1.data.toList s2.data.toList = z
  have hc : ∀ W, Calls Tryd.prog 56 #[.string s1, .string s2] W fun e w' => e = .returned (.int .i64 z) ∧ W = w' := fun W => by rw [← hz]; exact cmp56_any s1 s2 W
  have HC := hide hc
  clear hc hz
  go_enter Tryd.func70, Tryd.ntmps70
  go_wp2_with fail
  go_upto_region 1 with (fail)
  go_region_with (go_at_call 56; with_reducible refine (HC.out _).mono ?_; rintro e w' ⟨rfl, rfl⟩)
  all_goals (go_wp2_with fail; go_ret; exact ⟨rfl, _, rfl⟩)

/-- a slice of lines as it may be read: the elements, each a slice of strings -/
def RLines (w : World) (A : Option Addr) (n : Nat) (Ls : List (List ByteArray)) : Prop :=
  ∃ zs : List (Value × List ByteArray), zs.map (·.2) = Ls ∧ n = zs.length ∧ Reads w w.heap.size 1 A n (zs.map (·.1)) ∧ ∀ p ∈ zs, ∃ a c, p.1 = .slice a p.2.length c ∧ Reads w w.heap.size 1 a p.2.length (p.2.map .string)
theorem RLines.below {w w' : World} {B n : Nat} {A : Option Addr} {Ls : List (List ByteArray)} (h : RLines w A n Ls) (hb : Below B w w') (hB : w.heap.size ≤ B) : RLines w' A n Ls := by
  obtain ⟨zs, h1, h2, h3, h4⟩ := h
  have hb' := hb.mono hB
  refine ⟨zs, h1, h2, (h3.below hb').more hb'.size, fun p hp => ?_⟩
  obtain ⟨a, c, e, hr⟩ := h4 p hp
  exact ⟨a, c, e, (hr.below hb').more hb'.size⟩

/-- one line, read -/
theorem RLines.at_ {w : World} {n : Nat} {A : Option Addr} {Ls : List (List ByteArray)} (h : RLines w A n Ls) {k : Nat} (hk : k < n) :
    ∃ (ad : Addr) (a : Option Addr) (c : Nat) (l : List ByteArray), A = some ad ∧ ad.block < w.heap.size ∧ Ls[k]? = some l ∧ w.cell? (ad.add k) = some (.slice a l.length c) ∧ Reads w w.heap.size 1 a l.length (l.map .string) := by
  obtain ⟨zs, rfl, rfl, h3, h4⟩ := h
  obtain ⟨ad, u, e, hb, hx, hc⟩ := h3.at_ hk
  have hz : zs[k]? = some (zs[k]'hk) := List.getElem?_eq_getElem hk
  have hu : u = (zs[k]'hk).1 := by
    rw [List.getElem?_map, hz] at hx
    exact (Option.some.inj hx).symm
  obtain ⟨a, c, e2, hr⟩ := h4 _ (List.getElem_mem hk)
  exact ⟨ad, a, c, (zs[k]'hk).2, e, hb, by rw [List.getElem?_map, hz]; rfl, by rw [hc, hu, e2], hr⟩
theorem RLines.len {w : World} {n : Nat} {A : Option Addr} {Ls : List (List ByteArray)} (h : RLines w A n Ls) : n = Ls.length := by
  obtain ⟨zs, rfl, h2, _⟩ := h
  simpa using h2

set_option maxHeartbeats 1000000 in
set_option maxRecDepth 100000 in
/-- SameStrings of two slices that read alike -/
theorem same39_any (A A2 : Option Addr) (c c2 B n : Nat) (l : List ByteArray) (w : World) (h1 : Reads w B 1 A n (l.map .string)) (h2 : Reads w B 1 A2 n (l.map .string)) (hn : n ≤ 100000) :
    Calls Tryd.prog 39 #[.slice A n c, .slice A2 n c2] w fun e w' => e = .returned (.bool true) ∧ ∃ q, w' = w.drewN q := by
  go_enter Tryd.func39, Tryd.ntmps39
  go_wp2
  go_loopw [13] (fun i wr => ∃ k : Nat, k ≤ n ∧ i = .int .i64 k ∧ ∃ q, wr = w.drewN q) (fun i _ => n - (intOf i).toNat)
  case atStart => exact ⟨0, Nat.zero_le _, rfl, 0, rfl⟩
  case round =>
    obtain ⟨k, hk, rfl, q, rfl⟩ := hrel
    by_cases hlt : k < n
    · have hl := h1.1
      rw [List.length_map] at hl
      have hx : (l.map Value.string)[k]? = some (.string (l[k]'(by omega))) := by rw [List.getElem?_map, List.getElem?_eq_getElem (by omega)]; rfl
      generalize (l[k]'(by omega)) = x at hx
      clear hl
      obtain ⟨ad, rfl, hab, hc⟩ := h1.2 (by omega)
      obtain ⟨ad', rfl, hab', hc'⟩ := h2.2 (by omega)
      have c0 := hc _ _ hx
      have d0 := hc' _ _ hx
      clear hc hc' hx
      go_wp2
      go_quiet (fail)
      go_wp2
      go_roundw
      case rel => exact ⟨k + 1, by omega, by go_num, _, rfl⟩
      case measure => simp [intOf]; omega
    · go_wp2
      go_ret
      exact ⟨rfl, q, rfl⟩

set_option maxHeartbeats 1000000 in
set_option maxRecDepth 100000 in
/-- SameLists of two lists of lines that read alike -/
theorem samelists_any (A A2 : Option Addr) (c c2 n : Nat) (Ls : List (List ByteArray)) (w : World) (h1 : RLines w A n Ls) (h2 : RLines w A2 n Ls) (hn : n ≤ 100000) (hs : ∀ l ∈ Ls, l.length ≤ 100000) :
    Calls Tryd.prog 44 #[.slice A n c, .slice A2 n c2] w fun e w' => e = .returned (.bool true) ∧ ∃ q, w' = w.drewN q := by
  go_enter Tryd.func44, Tryd.ntmps44
  go_wp2
  go_loopw [13] (fun i wr => ∃ k : Nat, k ≤ n ∧ i = .int .i64 k ∧ ∃ q, wr = w.drewN q) (fun i _ => n - (intOf i).toNat)
  case atStart => exact ⟨0, Nat.zero_le _, rfl, 0, rfl⟩
  case round =>
    obtain ⟨k, hk, rfl, q, rfl⟩ := hrel
    by_cases hlt : k < n
    · obtain ⟨ad, a, c0, l, rfl, hab, hl, hcell, hr⟩ := h1.at_ hlt
      obtain ⟨ad', a', c0', l', rfl, hab', hl', hcell', hr'⟩ := h2.at_ hlt
      obtain rfl : l = l' := by rw [hl] at hl'; exact Option.some.inj hl'
      have hll := hs l (List.mem_of_getElem? hl)
      have hcon : ∀ q', Calls Tryd.prog 39 #[.slice a l.length c0, .slice a' l.length c0'] (w.drewN q') fun e w' => e = .returned (.bool true) ∧ ∃ q, w' = (w.drewN q').drewN q := fun q' => same39_any a a' c0 c0' w.heap.size l.length l (w.drewN q') hr hr' hll
      have HC := hide hcon
      clear hcon hl hl' hr hr' hll
      go_upto_region 6 with (fail)
      go_region_with (go_at_call 39; with_reducible refine (HC.out _).mono ?_; rintro e w' ⟨rfl, q2, rfl⟩)
      all_goals
        go_wp2_with fail
        go_roundw
        case rel => exact ⟨k + 1, by omega, by go_num, _, rfl⟩
        case measure => simp [intOf]; omega
    · go_wp2
      go_ret
      exact ⟨rfl, q, rfl⟩
end Go.Proofs.YtjgbadopladmdaaDoor
