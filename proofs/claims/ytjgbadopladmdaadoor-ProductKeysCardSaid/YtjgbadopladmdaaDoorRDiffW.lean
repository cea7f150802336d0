/- The walk of the reference's Differences. -/
import Derived.Test.YtjgbadopladmdaaDoorDiffW
import Derived.Test.YtjgbadopladmdaaDoorHoldsW
import Derived.Test.YtjgbadopladmdaaDoorSortedW
namespace Go.Proofs.YtjgbadopladmdaaDoor
open Go.RowKit Go.Sort
open Rel (Lk)

/-- the attributes gathered so far, in a row of the call's own -/
structure OwnR (w0 wr : World) (v : Value) (N : Nat) (P L : List Lk) (f : Lk → Bool) (j : Nat) : Prop where
  o : wr.ownsRow w0.heap.size 57 2 v N ((P ++ (L.take j).filter f).flatMap lc)
  b : Below w0.heap.size w0 wr
/-- the names gathered so far -/
structure OwnN (w0 wr : World) (v : Value) (N : Nat) (S : List Lk) (k : Nat) : Prop where
  o : wr.ownsRow w0.heap.size 9 1 v N ((Dif.upTo S k).map encStr)
  b : Below w0.heap.size w0 wr

set_option maxHeartbeats 8000000 in
set_option maxRecDepth 100000 in
theorem rdifferences_any (p q : Pr) (A1 A2 : Option Addr) (n1 c1 n2 c2 B : Nat) (L1 L2 : List Lk) (wz : World) (h1 : Recs lc 2 wz B A1 n1 L1) (h2 : Recs lc 2 wz B A2 n2 L2) (hB : B ≤ wz.heap.size) (hn1 : n1 ≤ 20) (hn2 : n2 ≤ 20) :
    Calls Tryd.prog 40 #[.agg (pv p (.slice A1 n1 c1)), .agg (pv q (.slice A2 n2 c2))] wz (Strs wz wz.heap.size (Dif.dif L1 L2)) := by
  obtain ⟨i0, hi, hz0, hz1, hz2⟩ := info_parts info57
  obtain ⟨i9, hj, hj0, hj1, hj2⟩ := info_parts info9
  obtain ⟨id, cd, br, d, m, am⟩ := p
  obtain ⟨id2, cd2, br2, d2, m2, am2⟩ := q
  simp only [pv]
  have hl1 := h1.len
  have hl2 := h2.len
  have HL1 := hide hl1
  have HL2 := hide hl2
  have hb1 := ((Below.refl wz.heap.size wz).alloc (Nat.le_refl _) (.cells #[.string id, .string cd, .string br, .int .i64 d, .int .i64 m, .int .i64 am, .slice A1 n1 c1] 50)).alloc (by simp) (.cells #[.string id2, .string cd2, .string br2, .int .i64 d2, .int .i64 m2, .int .i64 am2, .slice A2 n2 c2] 50)
  have hx := (Blk.new wz 50 #[.string id, .string cd, .string br, .int .i64 d, .int .i64 m, .int .i64 am, .slice A1 n1 c1]).alloc (.cells #[.string id2, .string cd2, .string br2, .int .i64 d2, .int .i64 m2, .int .i64 am2, .slice A2 n2 c2] 50)
  have hy := Blk.new (wz.alloc (.cells #[.string id, .string cd, .string br, .int .i64 d, .int .i64 m, .int .i64 am, .slice A1 n1 c1] 50)) 50 #[.string id2, .string cd2, .string br2, .int .i64 d2, .int .i64 m2, .int .i64 am2, .slice A2 n2 c2]
  rw [World.size_alloc] at hy
  have hzx := hx.lt
  have hzy := hy.lt
  have x6 := hx.cell 6
  have x6b := hy.cell 6
  simp only [List.getElem?_toArray, List.getElem?_cons_zero, List.getElem?_cons_succ] at x6 x6b
  have k1 := h1.below (hb1.mono hB)
  have k2 := h2.below (hb1.mono hB)
  clear hx hy h1 h2 hl1 hl2
  go_enter Tryd.func40, Tryd.ntmps40
  go_upto_block 0 with (fail)
  generalize (wz.alloc (.cells #[.string id, .string cd, .string br, .int .i64 d, .int .i64 m, .int .i64 am, .slice A1 n1 c1] 50)).alloc (.cells #[.string id2, .string cd2, .string br2, .int .i64 d2, .int .i64 m2, .int .i64 am2, .slice A2 n2 c2] 50) = W at hb1 hzx hzy x6 x6b k1 k2 ⊢
  have hzw := hb1.size
  have hBW : B ≤ W.heap.size := by omega
  generalize hqe : wz.heap.size = bx at hzx hzy x6 x6b ⊢
  have HQE := hide hqe
  have HB1 := hide hb1
  clear hqe hb1
  go_wp2_with fail

  go_loopw [5, 16] (fun v i wr => ∃ k : Nat, k ≤ n1 ∧ i = .int .i64 k ∧ ∃ N : Nat, N ≤ k ∧ OwnR W wr v N ([]) L1 (fun r => !isIn L2 r) k) (fun _ i _ => n1 - (intOf i).toNat)
  case atStart => exact ⟨0, Nat.zero_le _, rfl, 0, Nat.zero_le _, ⟨ownsRow_nil' _ _ _ _, Below.refl _ _⟩⟩
  case round =>
    obtain ⟨k, hk, rfl, N, hN, hO⟩ := hrel
    have Ho := hide hO.o
    have Hb := hide hO.b
    clear hO
    have hzr := Hb.out.size
    by_cases hlt : k < n1
    · obtain ⟨ad, x, hA, hab, hX, e0, ej⟩ := (k1.below (Hb.out.mono hBW)).at_ lc_len (by omega) hlt
      subst hA
      have e1 := ej 1 (by omega) (by omega)
      obtain ⟨x1, x2⟩ := x
      simp only [lc, List.getElem?_cons_zero, List.getElem?_cons_succ] at e0 e1
      have hst := Dif.filt_step (f := fun r => !isIn L2 r) hX
      have hcall0 := fun (wA : World) (hW : Below W.heap.size W wA) => holds_any A2 n2 c2 B L2 x1 x2 wA (k2.below (hW.mono hBW)) (Nat.le_trans hBW hW.size) (by omega)
      generalize isIn L2 (x1, x2) = cb at hst hcall0
      have HST := hide hst
      have HC0 := hide hcall0
      clear hst hcall0 ej hX
      go_upto_region 5 with (fail)
      have hoA := Ho.out.alloc (.cells #[.string x1, .string x2] 57)
      have hbA := Hb.out.alloc hzr (.cells #[.string x1, .string x2] 57)
      have hkA := Blk.new wr 57 #[.string x1, .string x2]
      generalize wr.alloc (.cells #[.string x1, .string x2] 57) = wA at hoA hbA hkA ⊢
      have hha := hkA.lt
      generalize wr.heap.size = ha at hkA hha ⊢
      have a0 := hkA.cell 0
      have a1 := hkA.cell 1
      simp only [List.getElem?_toArray, List.getElem?_cons_zero, List.getElem?_cons_succ] at a0 a1
      have y6 := (hbA.cell (p := ⟨bx + 1, 6, none⟩) hzy).trans x6b
      have hcall := HC0.out wA hbA
      have HC := hide hcall
      have HOA := hide hoA
      have HBA := hide hbA
      clear e0 e1 hkA hoA hbA hcall
      go_wp2_with fail
      with_reducible refine HC.out.mono ?_
      rintro e w5 ⟨rfl, hb5'⟩
      have z0 := (hb5'.cell (p := ⟨ha, 0, none⟩) hha).trans a0
      have z1 := (hb5'.cell (p := ⟨ha, 1, none⟩) hha).trans a1
      have ho5 := own_below HOA.out hb5' (own_block_lt HOA.out)
      have hb5 := HBA.out.trans (hb5'.mono HBA.out.size)
      have hz5 := hb5.size
      have HO5 := hide ho5
      have HB5 := hide hb5
      clear ho5 hb5 hb5' y6 a0 a1
      cases cb with
      | true =>
        have hst := HST.out
        rw [if_neg (by decide), List.append_nil] at hst
        have HF := hide hst
        clear hst HST
        go_wp2_with fail
        go_roundw
        case rel => exact ⟨k + 1, by omega, by go_num, N, by omega, by rw [HF.out]; exact HO5.out, HB5.out⟩
        case measure => simp [intOf]; omega
      | false =>
        have hst := HST.out
        rw [if_pos (show (!false) = true from rfl)] at hst
        have HF := hide hst
        clear hst HST
        go_wp2_with (at_builtin
                     refine wpList_append_elem' w5 w5.heap.size rfl rfl _ _ 48 rfl W.heap.size 57 i0 _ 2 32 Tryd.underlying48 hi hz0 hz1 hz2 rfl (by omega) (by omega) _ N _ rfl HO5.out #[.string x1, .string x2] rfl rfl rfl (by simp [Value.oneCell']) (by omega) hz5 ?_
                     intro v6 w6 hown6 hg6 _
                     have hb6 := below_own HB5.out HO5.out hg6 (Nat.le_refl _) hz5
                     have HO6 := hide hown6
                     have HB6 := hide hb6
                     clear hown6 hb6 hg6)
        first | refine ⟨⟨_, _, _, ?rel, rfl, rfl, rfl⟩, ?measure⟩ | go_roundw
        case rel => exact ⟨k + 1, by omega, by go_num, N + 1, by omega, by
          have := HO6.out
          rw [HF.out, ← List.append_assoc, List.flatMap_append]
          exact this, HB6.out⟩
        case measure => simp [intOf]; omega
    · obtain rfl : n1 = k := by omega
      have ho := Ho.out
      have hl1 := HL1.out
      rw [List.take_of_length_le (by omega), List.nil_append] at ho
      have HO3 := hide ho
      clear ho Ho hl1
      have y6 := (Hb.out.cell (p := ⟨bx + 1, 6, none⟩) hzy).trans x6b
      go_wp2_with fail
  
      go_loopw [5, 33] (fun v i wr => ∃ k : Nat, k ≤ n2 ∧ i = .int .i64 k ∧ ∃ N : Nat, N ≤ n1 + k ∧ OwnR W wr v N (L1.filter (fun r => !isIn L2 r)) L2 (fun r => !isIn L1 r) k) (fun _ i _ => n2 - (intOf i).toNat)
      case atStart => exact ⟨0, Nat.zero_le _, rfl, N, by omega, ⟨by have := HO3.out; simpa using this, Hb.out⟩⟩
      case round =>
        obtain ⟨k, hk, rfl, N, hN, hO⟩ := hrel
        have Ho := hide hO.o
        have Hb := hide hO.b
        clear hO
        have hzr := Hb.out.size
        by_cases hlt : k < n2
        · obtain ⟨ad, x, hA, hab, hX, e0, ej⟩ := (k2.below (Hb.out.mono hBW)).at_ lc_len (by omega) hlt
          subst hA
          have e1 := ej 1 (by omega) (by omega)
          obtain ⟨x1, x2⟩ := x
          simp only [lc, List.getElem?_cons_zero, List.getElem?_cons_succ] at e0 e1
          have hst := Dif.filt_step (f := fun r => !isIn L1 r) hX
          have hcall0 := fun (wA : World) (hW : Below W.heap.size W wA) => holds_any A1 n1 c1 B L1 x1 x2 wA (k1.below (hW.mono hBW)) (Nat.le_trans hBW hW.size) (by omega)
          generalize isIn L1 (x1, x2) = cb at hst hcall0
          have HST := hide hst
          have HC0 := hide hcall0
          clear hst hcall0 ej hX
          go_upto_region 11 with (fail)
          have hoA := Ho.out.alloc (.cells #[.string x1, .string x2] 57)
          have hbA := Hb.out.alloc hzr (.cells #[.string x1, .string x2] 57)
          have hkA := Blk.new wr 57 #[.string x1, .string x2]
          generalize wr.alloc (.cells #[.string x1, .string x2] 57) = wA at hoA hbA hkA ⊢
          have hha := hkA.lt
          generalize wr.heap.size = ha at hkA hha ⊢
          have a0 := hkA.cell 0
          have a1 := hkA.cell 1
          simp only [List.getElem?_toArray, List.getElem?_cons_zero, List.getElem?_cons_succ] at a0 a1
          have y6 := (hbA.cell (p := ⟨bx, 6, none⟩) hzx).trans x6
          have hcall := HC0.out wA hbA
          have HC := hide hcall
          have HOA := hide hoA
          have HBA := hide hbA
          clear e0 e1 hkA hoA hbA hcall
          go_wp2_with fail
          with_reducible refine HC.out.mono ?_
          rintro e w5 ⟨rfl, hb5'⟩
          have z0 := (hb5'.cell (p := ⟨ha, 0, none⟩) hha).trans a0
          have z1 := (hb5'.cell (p := ⟨ha, 1, none⟩) hha).trans a1
          have ho5 := own_below HOA.out hb5' (own_block_lt HOA.out)
          have hb5 := HBA.out.trans (hb5'.mono HBA.out.size)
          have hz5 := hb5.size
          have HO5 := hide ho5
          have HB5 := hide hb5
          clear ho5 hb5 hb5' y6 a0 a1
          cases cb with
          | true =>
            have hst := HST.out
            rw [if_neg (by decide), List.append_nil] at hst
            have HF := hide hst
            clear hst HST
            go_wp2_with fail
            go_roundw
            case rel => exact ⟨k + 1, by omega, by go_num, N, by omega, by rw [HF.out]; exact HO5.out, HB5.out⟩
            case measure => simp [intOf]; omega
          | false =>
            have hst := HST.out
            rw [if_pos (show (!false) = true from rfl)] at hst
            have HF := hide hst
            clear hst HST
            go_wp2_with (at_builtin
                         refine wpList_append_elem' w5 w5.heap.size rfl rfl _ _ 48 rfl W.heap.size 57 i0 _ 2 32 Tryd.underlying48 hi hz0 hz1 hz2 rfl (by omega) (by omega) _ N _ rfl HO5.out #[.string x1, .string x2] rfl rfl rfl (by simp [Value.oneCell']) (by omega) hz5 ?_
                         intro v6 w6 hown6 hg6 _
                         have hb6 := below_own HB5.out HO5.out hg6 (Nat.le_refl _) hz5
                         have HO6 := hide hown6
                         have HB6 := hide hb6
                         clear hown6 hb6 hg6)
            first | refine ⟨⟨_, _, _, ?rel, rfl, rfl, rfl⟩, ?measure⟩ | go_roundw
            case rel => exact ⟨k + 1, by omega, by go_num, N + 1, by omega, by
              have := HO6.out
              rw [HF.out, ← List.append_assoc, List.flatMap_append]
              exact this, HB6.out⟩
            case measure => simp [intOf]; omega
        · obtain rfl : n2 = k := by omega
          have ho := Ho.out
          have hzr := Hb.out.size
          have hl2 := HL2.out
          rw [List.take_of_length_le (by omega)] at ho
          have HO4 := hide (show wr.ownsRow W.heap.size 57 2 u5 N ((Dif.odd L1 L2).flatMap lc) from ho)
          clear ho Ho hl2
          obtain ⟨A5, c5, rfl, hnc5, _⟩ := own_form HO4.out
          have hlo : (Dif.odd L1 L2).length = N := by
            have := HO4.out.1
            rw [flat_len lc_len] at this
            omega
          have hrc : Recs lc 2 wr wr.heap.size A5 N (Dif.odd L1 L2) := (RowL.of_own HO4.out hlo rfl).recs (by omega)
          have hso := sorted_any A5 N c5 wr.heap.size (Dif.odd L1 L2) wr hrc (Nat.le_refl _) (by omega)
          have hdf := Dif.dif_ref L1 L2
          have hsl : (Srt.srt (Dif.odd L1 L2)).length = N := by rw [Srt.srt_len]; exact hlo
          generalize Srt.srt (Dif.odd L1 L2) = S at hso hdf hsl
          have HDF := hide hdf
          have HSL := hide hsl
          have HSO := hide hso
          have HBR := hide Hb.out
          clear hdf hsl hso hrc hlo
          go_wp2_with fail
          with_reducible refine HSO.out.mono ?_
          rintro e WS ⟨vS, rfl, hoS, hbS⟩
          obtain ⟨AS, cS, rfl, hncS, _⟩ := own_form hoS
          have hrS : Recs lc 2 WS WS.heap.size AS N S := (RowL.of_own hoS HSL.out rfl).recs (by omega)
          have hbW := HB1.out.trans ((HBR.out.trans (hbS.mono hzr)).mono hzw)
          have HBW2 := hide hbW
          clear hoS hbS hbW x6 x6b k1 k2 y6
          go_wp2_with fail
          go_loopw [10, 50] (fun v i wr => ∃ t : Nat, t ≤ N ∧ i = .int .i64 t ∧ ∃ M : Nat, M ≤ t ∧ OwnN WS wr v M S t) (fun _ i _ => N - (intOf i).toNat)
          case atStart => exact ⟨0, Nat.zero_le _, rfl, 0, Nat.le_refl _, ⟨ownsRow_nil' _ _ _ _, Below.refl _ _⟩⟩
          case round =>
            obtain ⟨t, ht, rfl, M, hM, hO⟩ := hrel
            have Ho := hide hO.o
            have Hb := hide hO.b
            have hM2 : (Dif.upTo S t).length = M := by have := hO.o.1; simpa using this
            have HM2 := hide hM2
            clear hO hM2
            have hzr := Hb.out.size
            by_cases hlt : t < N
            · obtain ⟨ad, x, hA, hab, hX, e0, ej⟩ := (hrS.below Hb.out).at_ lc_len (by omega) hlt
              subst hA
              have e1 := ej 1 (by omega) (by omega)
              obtain ⟨x1, x2⟩ := x
              simp only [lc, List.getElem?_cons_zero, List.getElem?_cons_succ] at e0 e1
              have HX := hide hX
              clear ej hX
              go_upto_region 18 with (fail)
              have hoA := Ho.out.alloc (.cells #[.string x1, .string x2] 57)
              have hbA := Hb.out.alloc hzr (.cells #[.string x1, .string x2] 57)
              have hkA := Blk.new wr 57 #[.string x1, .string x2]
              generalize wr.alloc (.cells #[.string x1, .string x2] 57) = w5 at hoA hbA hkA ⊢
              generalize wr.heap.size = ha at hkA ⊢
              have a0 := hkA.cell 0
              have a1 := hkA.cell 1
              simp only [List.getElem?_toArray, List.getElem?_cons_zero, List.getElem?_cons_succ] at a0 a1
              have HOA := hide hoA
              have HBA := hide hbA
              clear e0 e1 hkA hoA hbA
              obtain ⟨A6, c6, rfl, _, _⟩ := own_form HOA.out
              rcases Nat.eq_zero_or_pos t with ht0 | ht0
              case inl =>
                have hkeep := Dif.upTo_keep HX.out (.inl ht0)
                have HKEEP := hide hkeep
                obtain rfl : M = 0 := by omega
                clear hkeep ht0
                go_quiet (fail)
                have HO5 := hide (show (w5.drewN nq).ownsRow WS.heap.size 9 1 (.slice A6 0 c6) 0 ((Dif.upTo S t).map encStr) from HOA.out)
                have HB5 := hide (below_drewN HBA.out nq)
                have hz5 := HB5.out.size
                have z0 : (w5.drewN nq).cell? ⟨ha, 0, none⟩ = some (.string x1) := a0
                clear a0 a1 HOA HBA
                generalize w5.drewN nq = w5 at HO5 HB5 hz5 z0 ⊢
                go_wp2_with (at_builtin
                             refine wpList_append_elem' w5 w5.heap.size rfl rfl _ _ 62 rfl WS.heap.size 9 i9 _ 1 16 Tryd.underlying62 hj hj0 hj1 hj2 rfl (by omega) (by omega) _ 0 _ rfl HO5.out #[.string x1] rfl rfl rfl (by simp [Value.oneCell']) (by omega) hz5 ?_
                             intro v6 w6 hown6 hg6 _
                             have hb6 := below_own HB5.out HO5.out hg6 (Nat.le_refl _) hz5
                             have HO6 := hide hown6
                             have HB6 := hide hb6
                             clear hown6 hb6 hg6)
                first | refine ⟨⟨_, _, _, ?rel, rfl, rfl, rfl⟩, ?measure⟩ | go_roundw
                case rel => exact ⟨t + 1, by omega, by go_num, 0 + 1, by omega, by
                  have := HO6.out
                  rw [HKEEP.out, List.map_append]
                  exact this, HB6.out⟩
                case measure => simp [intOf]; omega
              case inr =>
                have hMp : 0 < M := by
                  rw [← HM2.out]
                  obtain ⟨t', rfl⟩ : ∃ t', t = t' + 1 := ⟨t - 1, by omega⟩
                  exact Dif.upTo_pos S t'
                obtain ⟨i, rfl⟩ : ∃ i, M = i + 1 := ⟨M - 1, by omega⟩
                have hy : (Dif.upTo S t)[i]? = some ((Dif.upTo S t)[i]'(by have := HM2.out; omega)) := List.getElem?_eq_getElem _
                generalize ((Dif.upTo S t)[i]'(by have := HM2.out; omega)) = y at hy
                have hlast : (Dif.upTo S t).getLast? = some y := by rw [List.getLast?_eq_getElem?, HM2.out]; exact hy
                obtain ⟨adg, hA6, _, hcg⟩ := (Reads.of_own HOA.out).2 (by omega)
                subst hA6
                have hy2 := hcg i (encStr y) (by rw [List.getElem?_map, hy]; rfl)
                have j0 : (0 : Int) ≤ (i : Int) := by omega
                have q2 : IntKind.i64.wrap (i : Int) = i := IntWalk.i64_in _ (by omega)
                have q3 : IntKind.i64.wrap ((i : Int) + 1 - 1) = i := by rw [Int.add_sub_cancel]; exact q2
                have j3 : ((i : Int) + 1 == 0) = false := by rw [beq_eq_false_iff_ne]; omega
                have j1 : (i : Int) < (i : Int) + 1 := by omega
                have HY := hide hlast
                clear hy hcg hlast
                by_cases hq : y = Dif.nm (x1, x2)
                case pos =>
                  have hskip := Dif.upTo_skip HX.out ht0 (by rw [HY.out, hq])
                  have HSKIP := hide hskip
                  subst hq
                  have hy3 : w5.cell? (adg.add i) = some (.string x1) := hy2
                  clear hskip hy2
                  try rw [show ((i + 1 : Nat) : Int) = (i : Int) + 1 from rfl]
                  go_quiet (fail)
                  go_wp2_with fail
                  go_roundw
                  case rel => exact ⟨t + 1, by omega, by go_num, i + 1, by omega, by rw [HSKIP.out]; exact HOA.out, below_drewN HBA.out nq⟩
                  case measure => simp [intOf]; omega
                case neg =>
                  have hkeep := Dif.upTo_keep HX.out (.inr (by rw [HY.out]; exact fun e => hq (Option.some.inj e)))
                  have HKEEP := hide hkeep
                  have hne : ((⟨y.toArray⟩ : ByteArray).toList == x1.toList) = false := beq_eq_false_iff_ne.2 fun e => hq (by rw [Lib.toList_data, Lib.toList_data] at e; simpa [Dif.nm] using e)
                  have hy3 : w5.cell? (adg.add i) = some (.string ⟨y.toArray⟩) := hy2
                  generalize (⟨y.toArray⟩ : ByteArray) = ys at hy3 hne
                  clear hkeep hy2
                  try rw [show ((i + 1 : Nat) : Int) = (i : Int) + 1 from rfl]
                  go_quiet (fail)
                  have HO5 := hide (show (w5.drewN nq).ownsRow WS.heap.size 9 1 (.slice (some adg) (i + 1) c6) (i + 1) ((Dif.upTo S t).map encStr) from HOA.out)
                  have HB5 := hide (below_drewN HBA.out nq)
                  have hz5 := HB5.out.size
                  have z0 : (w5.drewN nq).cell? ⟨ha, 0, none⟩ = some (.string x1) := a0
                  clear a0 a1 HOA HBA hy3 j0 q2 q3 j3 j1
                  try rw [show (i : Int) + 1 = ((i + 1 : Nat) : Int) from rfl]
                  generalize w5.drewN nq = w5 at HO5 HB5 hz5 z0 ⊢
                  go_wp2_with (at_builtin
                               refine wpList_append_elem' w5 w5.heap.size rfl rfl _ _ 62 rfl WS.heap.size 9 i9 _ 1 16 Tryd.underlying62 hj hj0 hj1 hj2 rfl (by omega) (by omega) _ (i + 1) _ rfl HO5.out #[.string x1] rfl rfl rfl (by simp [Value.oneCell']) (by omega) hz5 ?_
                               intro v6 w6 hown6 hg6 _
                               have hb6 := below_own HB5.out HO5.out hg6 (Nat.le_refl _) hz5
                               have HO6 := hide hown6
                               have HB6 := hide hb6
                               clear hown6 hb6 hg6)
                  first | refine ⟨⟨_, _, _, ?rel, rfl, rfl, rfl⟩, ?measure⟩ | go_roundw
                  case rel => exact ⟨t + 1, by omega, by go_num, (i + 1) + 1, by omega, by
                    have := HO6.out
                    rw [HKEEP.out, List.map_append]
                    exact this, HB6.out⟩
                  case measure => simp [intOf]; omega
            · obtain rfl : N = t := by omega
              go_wp2_with fail
              go_ret
              have ho := Ho.out
              obtain ⟨A6, c6, rfl, _, _⟩ := own_form ho
              have hall : Dif.upTo S N = Dif.dif L1 L2 := by rw [← HSL.out, Dif.upTo_all]; exact HDF.out
              rw [← HQE.out]
              rw [hall] at ho
              have hMl : M = (Dif.dif L1 L2).length := by rw [← hall]; exact HM2.out.symm
              subst hMl
              exact ⟨A6, c6, rfl, Reads.of_own ho, HBW2.out.trans (Hb.out.mono HBW2.out.size)⟩
end Go.Proofs.YtjgbadopladmdaaDoor
