/- The walk of RelaunchMany. -/
import Derived.Test.YtjgbadopladmdaaDoorManyP
import Derived.Test.YtjgbadopladmdaaDoorKeepW
import Derived.Test.YtjgbadopladmdaaDoorLinT
namespace Go.Proofs.YtjgbadopladmdaaDoor
open Go.RowKit Rel

theorem row_cells (k : Nat) : (row k).flatMap lc ++ (#[Value.string (idS (k : Int)), .string (idS ((k : Int) + 1))] : Array Value).toList = (row (k + 1)).flatMap lc := by
  rw [row_next, List.flatMap_append]
  rfl

theorem ring_cells (m : Nat) : (ring m).flatMap lc = ((row (m + 1)).flatMap lc).set (m * 2 + 1) (.string (idS 0)) := by
  have hl : ((row m).flatMap lc).length = m * 2 := by rw [flat_len lc_len, row_len]
  rw [row_next, List.flatMap_append, List.set_append_right _ _ (by omega), hl, show m * 2 + 1 - m * 2 = 1 by omega]
  unfold ring
  rw [List.flatMap_append]
  rfl
theorem row_last (m : Nat) : (row (m + 1))[m]? = some (lk m) := by
  unfold row
  rw [List.getElem?_map, List.getElem?_range (by omega)]
  rfl
theorem ring_own {w : World} {base g c m : Nat} {cur : Array Value} (hbk : Blk w g 74 cur) (hbase : base ≤ g) (h1 : m + 1 ≤ c) (h2 : c ≤ maxLen) (h3 : cur.size = c * 2) (h4 : cur.toList.take ((m + 1) * 2) = (row (m + 1)).flatMap lc) :
    (w.setCell ⟨g, m * 2 + 1, none⟩ (.string (idS 0))).ownsRow base 74 2 (.slice (some ⟨g, 0, none⟩) (m + 1) c) (m + 1) ((ring m).flatMap lc) := by
  refine ⟨by rw [flat_len lc_len, ring_len], .inr ⟨g, c, _, rfl, hbase, hbk.set_ (m * 2 + 1) (.string (idS 0)), h1, h2, by simpa using h3, ?_⟩⟩
  rw [ring_cells, ← h4, Array.toList_setIfInBounds, List.take_set]

set_option maxHeartbeats 8000000 in
set_option maxRecDepth 100000 in
theorem many_law (a : Int) (b : Bool) (w : World) : Calls Tryd.prog 11 #[.int .i64 a, .bool b] w fun e w' => e = .returned (.bool true) ∧ Below w.heap.size w w' := by
  obtain ⟨i0, hi, y0, y1, y2⟩ := info_parts info74
  obtain ⟨p0, p1⟩ := fld_bd a 3 (by omega)
  obtain ⟨p, hp⟩ := Int.eq_ofNat_of_zero_le p0
  have hfo : ∀ W, Calls Tryd.prog 19 #[.int .i64 a, .int .i64 3] W fun e w' => e = .returned (.int .i64 (p : Int)) ∧ W = w' := fun W => by
    rw [← hp]
    exact fold_any a 3 W (by omega) (by omega)
  rw [hp] at p1
  have HF := hide hfo
  clear hfo hp p0
  have hp3 : p < 3 := by omega
  clear p1
  go_enter Tryd.func11, Tryd.ntmps11
  go_wp2_with fail
  with_reducible refine (HF.out _).mono ?_
  rintro e w' ⟨rfl, rfl⟩
  go_upto_region 2 with (fail)
  rw [show (199 : Int) + (p : Int) = ((199 + p : Nat) : Int) by omega]
  obtain ⟨k, hk⟩ : ∃ k, k = 199 + p := ⟨_, rfl⟩
  rw [← hk]
  have hk1 : 199 ≤ k := by omega
  have hk2 : k ≤ 201 := by omega
  clear hk HF hp3
  go_wp2_with fail
  go_loopw [6, 13] (fun v i wr => ∃ j : Nat, j ≤ k ∧ i = .int .i64 j ∧ wr.ownsRow w.heap.size 74 2 v j ((row j).flatMap lc) ∧ Below w.heap.size w wr) (fun _ i _ => k - (intOf i).toNat)
  case atStart => exact ⟨0, Nat.zero_le _, rfl, ownsRow_nil' _ _ _ _, Below.refl _ _⟩
  case round =>
    obtain ⟨j, hj, rfl, hown, hb⟩ := hrel
    have hz := hb.size
    obtain ⟨wo, rfl⟩ : ∃ wo : World, wo = wr := ⟨_, rfl⟩
    by_cases hlt : j < k
    · go_wp2_with fail
      with_reducible refine (id_is (j : Int) wo (by omega) (by omega)).mono ?_
      rintro e w1 ⟨rfl, hB1⟩
      go_wp2_with fail
      with_reducible refine (id_is ((j : Int) + 1) w1 (by omega) (by omega)).mono ?_
      rintro e w2 ⟨rfl, hB2⟩
      have hB := below_trans hB1 hB2
      have hown2 := own_below hown hB (own_block_lt hown)
      have hb2 := hb.trans (hB.mono hz)
      have hz2 := hb2.size
      clear hB1 hB2 hB hown hb
      go_wp2_with (first
        | (at_builtin; refine wpList_append_elem' w2 w2.heap.size rfl rfl _ _ 30 rfl w.heap.size 74 i0 _ 2 32 Tryd.underlying30 hi y0 y1 y2 rfl (by omega) (by omega) _ j _ rfl hown2 #[.string (idS (j : Int)), .string (idS ((j : Int) + 1))] rfl rfl rfl (by simp [Value.oneCell']) (by omega) hz2 ?_
           intro v5 w5 hown5 hg5 _
           have hb5 := below_own hb2 hown2 hg5 (Nat.le_refl _) hz2
           rw [row_cells] at hown5
           clear hg5 hown2)
        | go_in)
      go_roundw
      case rel => exact ⟨j + 1, by omega, by go_num, hown5, hb5⟩
      case measure => simp [intOf]; omega
    · obtain rfl : j = k := by omega
      obtain ⟨A, c, rfl, hnc, hcm⟩ := own_form hown
      unfold maxLen at hcm
      cases b with
      | false =>
        have hlk : Links wo wo.heap.size A j (row j) := ⟨Reads.of_own hown, (row_len j).symm, fun r hr => by
          obtain ⟨q, _, rfl⟩ := mem_row.1 hr
          exact ⟨by show (idS _).size ≤ 1000; rw [idS_size]; omega, by show (idS _).size ≤ 1000; rw [idS_size]; omega⟩, by omega⟩
        have hval := validate_any A j c wo.heap.size (row j) wo hlk (Nat.le_refl _) hnc
        have hz := hb.size
        by_cases h200 : 200 < j
        · obtain rfl : j = 201 := by omega
          rw [long_err (by rw [row_len]; omega)] at hval
          have HV := hide hval
          clear hval hown hlk
          go_wp2_with fail
          with_reducible refine HV.out.mono ?_
          rintro e w1 ⟨rfl, hB1⟩
          have hz1 := hB1.size
          go_wp2_with (go_at_call 27; with_reducible refine (rawake_any w1).mono ?_; rintro e w8 ⟨rfl, hB8⟩)
          go_ret
          exact ⟨rfl, hb.trans ((hB1.trans (hB8.mono hz1)).mono hz)⟩
        · rw [row_ok (by omega)] at hval
          have HV := hide hval
          have HK := hide hlk
          clear hval hown hlk
          go_wp2_with fail
          with_reducible refine HV.out.mono ?_
          rintro e w1 ⟨rfl, hB1⟩
          have hz1 := hB1.size
          have hb1 := hb.trans (hB1.mono hz)
          go_wp2_with fail
          with_reducible refine (id_is (j : Int) w1 (by omega) (by omega)).mono ?_
          rintro e w2 ⟨rfl, hB2⟩
          have hz2 := hB2.size
          have hk2 := hB1.trans (hB2.mono hz1)
          have g1 := line_any A j c wo.heap.size (row j) (idS (j : Int)) w2 (HK.out.below hk2) (by omega) hnc (by rw [idS_size]; decide)
          rw [row_line (by omega)] at g1
          have G1 := hide g1
          clear g1
          go_wp2_with fail
          with_reducible refine G1.out.mono ?_
          rintro e w3 ⟨rfl, hB3⟩
          have hz3 := hB3.size
          have hk3 := hk2.trans (hB3.mono (by omega))
          go_wp2_with fail
          with_reducible refine (id_is 0 w3 (by omega) (by omega)).mono ?_
          rintro e w4 ⟨rfl, hB4⟩
          have hz4 := hB4.size
          have hk4 := hk3.trans (hB4.mono (by omega))
          have G2 := hide (lines_any sorts_lines A j c wo.heap.size (row j) w4 (HK.out.below hk4) (by omega) hnc)
          clear G1
          go_wp2_with fail
          with_reducible refine G2.out.mono ?_
          rintro e w5 ⟨v5, Ls, rfl, hln, his, hB5⟩
          obtain ⟨zs, rfl, hown5, _⟩ := hln
          have hone := row_one (by omega) (by omega) (his.1 (row_ok (by omega)))
          rw [List.length_map] at hone
          obtain ⟨A5, c5, rfl, _, _⟩ := own_form hown5
          rw [hone]
          have hz5 := hB5.size
          have hk5 := hk4.trans (hB5.mono (by omega))
          clear G2 hown5 his hone hB5 hB4 hB3 hB2
          go_wp2_with (go_at_call 27; with_reducible refine (rawake_any w5).mono ?_; rintro e w8 ⟨rfl, hB8⟩)
          go_ret
          exact ⟨rfl, hb.trans ((hk5.trans (hB8.mono (by omega))).mono hz)⟩
      | true =>
        obtain ⟨m, rfl⟩ : ∃ m, j = m + 1 := ⟨j - 1, by omega⟩
        have hz := hb.size
        rcases hown.2 with ⟨_, h0⟩ | ⟨g, cap, cur, hv, hbase, hheap, h1, h2, h3, h4⟩
        · exact absurd h0 (by omega)
        · injection hv with a1 a2 a3
          subst a1 a3
          have hbk : Blk wo g 74 cur := hheap
          have Hcur := hide h4
          have Hsz := hide h3
          have hbm := hide hb
          clear hown h4 h3 hheap
          have j0 : (0 : Int) ≤ (m : Int) := by omega
          have j1 : (m : Int) < (m : Int) + 1 := by omega
          have q2 : IntKind.i64.wrap (m : Int) = m := IntWalk.i64_in _ (by omega)
          have q3 : IntKind.i64.wrap ((m : Int) + 1 - 1) = m := by rw [Int.add_sub_cancel]; exact q2
          rw [show ((m + 1 : Nat) : Int) = (m : Int) + 1 from rfl]
          go_wp2_with fail
          with_reducible refine (id_is 0 wo (by omega) (by omega)).mono ?_
          rintro e w1 ⟨rfl, hB1⟩
          have hbk1 := hbk.below hB1 hbk.lt
          have hfz := hbk1.frozen (m * 2 + 1)
          have hz1 := hB1.size
          have hcl : w1.cell? ⟨g, m * 2 + 1, none⟩ = some (.string (lk m).2) := by
            rw [hbk1.cell, ← Array.getElem?_toList, ← (flat_get (row (m + 1)) m (lk m) (row_last m)).2, ← Hcur.out, List.getElem?_take_of_lt (by omega)]
          have hring := ring_own hbk1 hbase h1 h2 Hsz.out Hcur.out
          have hbW := (hbm.out.trans (hB1.mono hz)).setCell (p := ⟨g, m * 2 + 1, none⟩) hbase (.string (idS 0))
          have Hring := hide hring
          have HbW := hide hbW
          clear hring hbW hbk hbk1 hB1
          go_upto_region 10 with (fail)
          have hring := Hring.out
          have hbW := HbW.out
          generalize w1.setCell ⟨g, m * 2 + 1, none⟩ (.string (idS 0)) = W at hring hbW ⊢
          clear hcl hfz Hring HbW
          have hzW := hbW.size
          have hlk : Links W W.heap.size (some ⟨g, 0, none⟩) (m + 1) (ring m) := ⟨Reads.of_own hring, (ring_len m).symm, fun r hr => by
            rcases mem_ring.1 hr with ⟨q, _, rfl⟩ | rfl <;> exact ⟨by show (idS _).size ≤ 1000; rw [idS_size]; omega, by show (idS _).size ≤ 1000; rw [idS_size]; omega⟩, by omega⟩
          have hval := validate_any (some ⟨g, 0, none⟩) (m + 1) c W.heap.size (ring m) W hlk (Nat.le_refl _) hnc
          by_cases h200 : 200 < m + 1
          · obtain rfl : m = 200 := by omega
            rw [long_err (by rw [ring_len]; omega)] at hval
            have HV := hide hval
            clear hval hring hlk
            go_wp2_with fail
            with_reducible refine HV.out.mono ?_
            rintro e w2 ⟨rfl, hB2⟩
            have hz2 := hB2.size
            go_wp2_with (go_at_call 27; with_reducible refine (rawake_any w2).mono ?_; rintro e w8 ⟨rfl, hB8⟩)
            go_ret
            exact ⟨rfl, hbW.trans ((hB2.trans (hB8.mono hz2)).mono hzW)⟩
          · rw [ring_err (by omega) (by omega)] at hval
            have HV := hide hval
            have HK := hide hlk
            have hno : ¬ (200 : Int) < (m : Int) + 1 := by omega
            clear hval hring hlk h200
            go_wp2_with fail
            with_reducible refine HV.out.mono ?_
            rintro e w2 ⟨rfl, hB2⟩
            have hz2 := hB2.size
            go_wp2_with fail
            with_reducible refine (id_is 1 w2 (by omega) (by omega)).mono ?_
            rintro e w3 ⟨rfl, hB3⟩
            have hz3 := hB3.size
            have hk3 := hB2.trans (hB3.mono hz2)
            have g1 := line_any (some ⟨g, 0, none⟩) (m + 1) c W.heap.size (ring m) (idS 1) w3 (HK.out.below hk3) (by omega) hnc (by rw [idS_size]; decide)
            rw [lineOf_no (by rw [ring_err (by omega) (by omega)]; decide)] at g1
            have G1 := hide g1
            clear g1
            go_wp2_with fail
            with_reducible refine G1.out.mono ?_
            rintro e w4 ⟨rfl, hB4⟩
            have hk4 := hk3.trans (hB4.mono (by omega))
            have hz4 := hk4.size
            clear G1 HV HK hB2 hB3 hB4
            go_wp2_with (go_at_call 27; with_reducible refine (rawake_any w4).mono ?_; rintro e w8 ⟨rfl, hB8⟩)
            go_ret
            exact ⟨rfl, hbW.trans ((hk4.trans (hB8.mono hz4)).mono hzW)⟩
end Go.Proofs.YtjgbadopladmdaaDoor
