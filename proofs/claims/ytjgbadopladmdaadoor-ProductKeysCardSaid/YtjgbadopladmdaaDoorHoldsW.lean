/- The walks of the reference's holds and SameStrings. -/
import Derived.Test.YtjgbadopladmdaaDoorStrsW
import Derived.Test.YtjgbadopladmdaaDoorKeyV
import Derived.Deep.CutBlock
namespace Go.Proofs.YtjgbadopladmdaaDoor
open Go.RowKit
open Rel (Lk)

set_option maxHeartbeats 4000000 in
set_option maxRecDepth 100000 in
theorem holds_any (A : Option Addr) (n c B : Nat) (L : List Lk) (x1 x2 : ByteArray) (w : World) (h : Recs lc 2 w B A n L) (hB : B ≤ w.heap.size) (hn : n ≤ 1000) :
    Calls Tryd.prog 65 #[.slice A n c, .agg #[.string x1, .string x2]] w fun e w' => e = .returned (.bool (isIn L (x1, x2))) ∧ Below w.heap.size w w' := by
  have hlen := h.len
  have Hl := hide hlen
  clear hlen
  have hb0 := (Below.refl w.heap.size w).alloc (Nat.le_refl _) (.cells #[.string x1, .string x2] 57)
  have hbk := Blk.new w 57 #[.string x1, .string x2]
  go_enter Tryd.func65, Tryd.ntmps65
  go_upto_block 0 with (fail)
  generalize w.alloc (.cells #[.string x1, .string x2] 57) = W at hb0 hbk ⊢
  have hbl := hbk.lt
  generalize hbx : w.heap.size = bx at hbk hbl ⊢
  have a0 := hbk.cell 0
  have a1 := hbk.cell 1
  simp only [List.getElem?_toArray, List.getElem?_cons_zero, List.getElem?_cons_succ] at a0 a1
  have HBX := hide hbx
  have HB0 := hide hb0
  have hBW : B ≤ W.heap.size := Nat.le_trans hB hb0.size
  have hW := h.below (hb0.mono hB)
  clear hbk hb0 hbx h
  go_wp2_with fail
  go_loopw [9] (fun i wr => ∃ k : Nat, k ≤ n ∧ i = .int .i64 k ∧ isIn (L.take k) (x1, x2) = false ∧ Below W.heap.size W wr) (fun i _ => n - (intOf i).toNat)
  case atStart => exact ⟨0, Nat.zero_le _, rfl, rfl, Below.refl _ _⟩
  case round =>
    obtain ⟨k, hk, rfl, hno, hb⟩ := hrel
    have hz := hb.size
    by_cases hlt : k < n
    · obtain ⟨ad, r, rfl, hab, hR, c0, cj⟩ := (hW.below (hb.mono hBW)).at_ lc_len (by omega) hlt
      have c1 := cj 1 (by omega) (by omega)
      obtain ⟨r1, r2⟩ := r
      simp only [lc, List.getElem?_cons_zero, List.getElem?_cons_succ] at c0 c1
      have hbA := hb.alloc hz (.cells #[.string r1, .string r2] 57)
      have HR := hide hR
      have HNO := hide hno
      have HBA := hide hbA
      clear cj hR hno hbA hb
      go_upto_region 4 with (fail)
      have hkA := Blk.new wr 57 #[.string r1, .string r2]
      generalize wr.alloc (.cells #[.string r1, .string r2] 57) = wA at HBA hkA ⊢
      generalize wr.heap.size = ha at hkA ⊢
      have d0 := (HBA.out.cell (p := ⟨bx, 0, none⟩) hbl).trans a0
      have d1 := (HBA.out.cell (p := ⟨bx, 1, none⟩) hbl).trans a1
      have y0 := hkA.cell 0
      have y1 := hkA.cell 1
      simp only [List.getElem?_toArray, List.getElem?_cons_zero, List.getElem?_cons_succ] at y0 y1
      clear hkA c0 c1
      have hstep : (x1, x2) ≠ (r1, r2) → isIn (L.take (k + 1)) (x1, x2) = false := fun hne => by
        rw [List.take_add_one, HR.out, Option.toList_some, ← isIn_snoc, HNO.out]
        simpa using hne
      by_cases q1 : x1.toList = r1.toList
      · by_cases q2 : x2.toList = r2.toList
        · obtain rfl : x1 = r1 := bytes_eq_of (by rw [Lib.toList_data, Lib.toList_data] at q1; exact q1)
          obtain rfl : x2 = r2 := bytes_eq_of (by rw [Lib.toList_data, Lib.toList_data] at q2; exact q2)
          have hin := Dif.isIn_of HR.out
          clear hstep q1 q2
          go_wp2_with fail
          go_ret
          rw [hin]
          exact ⟨rfl, HB0.out.trans (HBA.out.mono HB0.out.size)⟩
        · have hs := hstep (fun e => q2 (by injection e with _ e; rw [e]))
          clear hstep
          go_wp2_with fail
          go_roundw
          case rel => exact ⟨k + 1, by omega, by go_num, hs, HBA.out⟩
          case measure => simp [intOf]; omega
      · have hs := hstep (fun e => q1 (by injection e with e _; rw [e]))
        clear hstep
        go_wp2_with fail
        go_roundw
        case rel => exact ⟨k + 1, by omega, by go_num, hs, HBA.out⟩
        case measure => simp [intOf]; omega
    · obtain rfl : k = n := by omega
      go_wp2_with fail
      go_ret
      have := Hl.out
      rw [List.take_of_length_le (by omega)] at hno
      rw [hno]
      exact ⟨rfl, HB0.out.trans (hb.mono HB0.out.size)⟩

open Go.Sort in
set_option maxHeartbeats 4000000 in
set_option maxRecDepth 100000 in
/-- ref.SameStrings of two slices that hold the same strings: true -/
theorem samestr_any (A A2 : Option Addr) (c c2 B : Nat) (N : List (List UInt8)) (w : World) (h1 : Reads w B 1 A N.length (N.map encStr)) (h2 : Reads w B 1 A2 N.length (N.map encStr)) (hn : N.length ≤ 1000) :
    Calls Tryd.prog 39 #[.slice A N.length c, .slice A2 N.length c2] w fun e w' => e = .returned (.bool true) ∧ Below w.heap.size w w' := by
  generalize hn0 : N.length = n at h1 h2 hn ⊢
  have HN := hide hn0
  clear hn0
  go_enter Tryd.func39, Tryd.ntmps39
  go_wp2
  go_loopw [13] (fun i wr => ∃ k : Nat, k ≤ n ∧ i = .int .i64 k ∧ ∃ q, wr = w.drewN q) (fun i _ => n - (intOf i).toNat)
  case atStart => exact ⟨0, Nat.zero_le _, rfl, 0, rfl⟩
  case round =>
    obtain ⟨k, hk, rfl, q, rfl⟩ := hrel
    by_cases hlt : k < n
    · have hx : (N.map encStr)[k]? = some (encStr (N[k]'(by rw [HN.out]; exact hlt))) := by rw [List.getElem?_map, List.getElem?_eq_getElem (by rw [HN.out]; exact hlt)]; rfl
      generalize (N[k]'(by rw [HN.out]; exact hlt)) = x at hx
      obtain ⟨ad, rfl, hab, hc⟩ := h1.2 (by omega)
      obtain ⟨ad', rfl, hab', hc'⟩ := h2.2 (by omega)
      have c0 := hc _ _ hx
      have d0 := hc' _ _ hx
      clear hc hc' hx
      go_wp2
      go_quiet (fail)
      go_wp2
      go_roundw
      case rel => exact ⟨k + 1, by omega, by go_num, _, rfl⟩
      case measure => simp [intOf]; omega
    · go_wp2
      go_ret
      exact ⟨rfl, below_drewN (Below.refl _ _) q⟩
end Go.Proofs.YtjgbadopladmdaaDoor
