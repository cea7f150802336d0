/- The walk of links: any relaunches of a tape. -/
import Derived.Test.YtjgbadopladmdaaDoorChainW
namespace Go.Proofs.YtjgbadopladmdaaDoor
open Go.RowKit Rel

/-- a maker of relaunches -/
def MadeL (w : World) (B g j : Nat) (e : Ending) (w' : World) : Prop :=
  ∃ (v : Value) (L : List Lk), e = .returned v ∧ w'.ownsRow w.heap.size 74 2 v L.length (L.flatMap lc) ∧ L.length ≤ 6 ∧ (∀ r ∈ L, r.1.size ≤ 8 ∧ r.2.size ≤ 8) ∧ Tape w' B g (j + 40) ∧ w.grownBy w' (some g)

theorem short_app {L M : List Lk} (h1 : ∀ r ∈ L, r.1.size ≤ 8 ∧ r.2.size ≤ 8) (h2 : ∀ r ∈ M, r.1.size ≤ 8 ∧ r.2.size ≤ 8) : ∀ r ∈ L ++ M, r.1.size ≤ 8 ∧ r.2.size ≤ 8 := fun r hr => by
  rcases List.mem_append.1 hr with h | h
  · exact h1 r h
  · exact h2 r h
theorem short_one (a b : Int) : ∀ r ∈ [((idS a, idS b) : Lk)], r.1.size ≤ 8 ∧ r.2.size ≤ 8 := fun r hr => by
  obtain rfl := List.mem_singleton.1 hr
  exact ⟨by show (idS a).size ≤ 8; rw [idS_size]; omega, by show (idS b).size ≤ 8; rw [idS_size]; omega⟩

set_option maxHeartbeats 4000000 in
set_option maxRecDepth 100000 in
theorem links_any (g j B : Nat) (w : World) (ht : Tape w B g j) (hj : j ≤ 10000) :
    Calls Tryd.prog 22 #[.pointer (some ⟨g, 0, none⟩)] w (MadeL w B g j) := by
  obtain ⟨i0, hi, hz0, hz1, hz2⟩ := info_parts info74
  have hlt := ht.lt
  have hBg := ht.base
  go_enter Tryd.func22, Tryd.ntmps22
  go_wp2_with fail
  with_reducible refine (next_any g j B 6 w ht (by omega) (by omega) (by omega)).mono ?_
  rintro e wa ⟨u, rfl, u0, u6, hta, hga⟩
  obtain ⟨n, rfl⟩ := Int.eq_ofNat_of_zero_le u0
  have hza := hga.size
  go_wp2
  go_loopw [3, 8] (fun v i wr => ∃ (k : Nat) (L : List Lk), k ≤ n ∧ i = .int .i64 k ∧ Hid (L.length = k) ∧ Hid (∀ r ∈ L, r.1.size ≤ 8 ∧ r.2.size ≤ 8) ∧ wr.ownsRow w.heap.size 74 2 v k (L.flatMap lc) ∧ Tape wr B g (j + 1 + 2 * k) ∧ w.grownBy wr (some g)) (fun _ i _ => n - (intOf i).toNat)
  case atStart => exact ⟨0, [], Nat.zero_le _, rfl, rfl, (show ∀ r ∈ ([] : List Lk), r.1.size ≤ 8 ∧ r.2.size ≤ 8 from fun r hr => by cases hr), ownsRow_nil' _ _ _ _, hta, hga⟩
  case round =>
    obtain ⟨k, L, hk, rfl, Hl, Hs, hown, htk, hgk⟩ := hrel
    have hz := hgk.size
    by_cases hlt6 : k < n
    · go_wp2_with fail
      with_reducible refine (next_any g (j + 1 + 2 * k) B 7 wr htk (by omega) (by omega) (by omega)).mono ?_
      rintro e w1 ⟨a, rfl, a0, a7, ht1, hg1⟩
      go_wp2_with fail
      with_reducible refine (id_is a w1 a0 (by omega)).mono ?_
      rintro e w2 ⟨rfl, hB2⟩
      have ht2 := ht1.below hB2 ht1.lt
      go_wp2_with fail
      with_reducible refine (next_any g (j + 1 + 2 * k + 1) B 7 w2 ht2 (by omega) (by omega) (by omega)).mono ?_
      rintro e w3 ⟨b, rfl, b0, b7, ht3, hg3⟩
      go_wp2_with fail
      with_reducible refine (id_is b w3 b0 (by omega)).mono ?_
      rintro e w4 ⟨rfl, hB4⟩
      have hgr : wr.grownBy w4 (some g) := ((hg1.trans (only_of_below hB2 (some g))).trans hg3).trans (only_of_below hB4 (some g))
      have ht4 := ht3.below hB4 ht3.lt
      have hown4 := own_far hown hgr hlt
      have hg4 := hgk.trans hgr
      have hs4 := hg4.size
      clear hown htk hgk hg1 hB2 hg3 hB4 hgr ht1 ht2 ht3
      go_wp2_with (at_builtin; refine wpList_append_elem w4 rfl _ _ 30 rfl w.heap.size 74 i0 _ 2 32 Tryd.underlying30 hi hz0 hz1 hz2 rfl (by omega) (by omega) _ k _ rfl hown4 #[.string (idS a), .string (idS b)] rfl rfl rfl (by simp [Value.oneCell']) (by omega) hs4 ?_; intro v5 w5 hown5 hg5 _)
      have hgf := grownBy_own hg4 hown4 rfl hg5
      have htf := (ht4.far hg5 (fun e => by have := own_block_ge hown4 g e; omega) (fun x hx => by have := own_block_ge hown4 x hx; omega)).more (j' := j + 1 + 2 * (k + 1)) (by omega)
      have hl9 : Hid ((L ++ [((idS a, idS b) : Lk)]).length = k + 1) := by show (L ++ [_]).length = k + 1; rw [List.length_append, Hl.out]; rfl
      have hs9 : Hid (∀ r ∈ L ++ [((idS a, idS b) : Lk)], r.1.size ≤ 8 ∧ r.2.size ≤ 8) := short_app Hs.out (short_one a b)
      go_roundw
      case rel => exact ⟨k + 1, L ++ [((idS a, idS b) : Lk)], by omega, by go_num, hl9, hs9, by rw [List.flatMap_append]; exact hown5, htf, hgf⟩
      case measure => simp [intOf]; omega
    · obtain rfl : k = n := by omega
      have htk := htk.more (j' := j + 1 + 2 * 6) (by omega)
      go_wp2_with fail
      with_reducible refine (next_any g (j + 1 + 2 * 6) B 2 wr htk (by omega) (by omega) (by omega)).mono ?_
      rintro e w1 ⟨b, rfl, b0, b2, ht1, hg1⟩
      have hown1 := own_far hown hg1 hlt
      have hgr1 := hgk.trans hg1
      clear hown htk hgk hg1
      by_cases hb : b = 0
      · subst hb
        go_wp2_with fail
        with_reducible refine (next_any g (j + 1 + 2 * 6 + 1) B 6 w1 ht1 (by omega) (by omega) (by omega)).mono ?_
        rintro e w2 ⟨u, rfl, v0, v6, ht2, hg2⟩
        obtain ⟨m, rfl⟩ := Int.eq_ofNat_of_zero_le v0
        have hgr2 := hgr1.trans hg2
        clear hown1 hg2 ht1 hgr1 Hl Hs hk hlt6
        go_wp2
        go_loopw [3, 26] (fun v i wr => ∃ (k l : Nat) (L : List Lk), k ≤ m ∧ l ≤ k ∧ i = .int .i64 k ∧ Hid (L.length = l) ∧ Hid (∀ r ∈ L, r.1.size ≤ 8 ∧ r.2.size ≤ 8) ∧ wr.ownsRow w.heap.size 74 2 v l (L.flatMap lc) ∧ Tape wr B g (j + 1 + 2 * 6 + 1 + 1 + k) ∧ w.grownBy wr (some g)) (fun _ i _ => m - (intOf i).toNat)
        case atStart => exact ⟨0, 0, [], Nat.zero_le _, Nat.zero_le _, rfl, rfl, (show ∀ r ∈ ([] : List Lk), r.1.size ≤ 8 ∧ r.2.size ≤ 8 from fun r hr => by cases hr), ownsRow_nil' _ _ _ _, ht2, hgr2⟩
        case round =>
          obtain ⟨k, l, L, hk, hlk, rfl, Hl, Hs, hown, htk, hgk⟩ := hrel
          have hz := hgk.size
          by_cases hlt6 : k < m
          · obtain ⟨A, c, rfl, hnc, hcm⟩ := own_form hown
            go_wp2_with fail
            with_reducible refine (id_is k _ (by omega) (by omega)).mono ?_
            rintro e w4 ⟨rfl, hB4⟩
            go_wp2_with fail
            with_reducible refine (id_is (k + 1) w4 (by omega) (by omega)).mono ?_
            rintro e w5 ⟨rfl, hB5⟩
            have hB := below_trans hB4 hB5
            have hgr5 := hgk.trans (only_of_below hB (some g))
            have ht5 := htk.below hB htk.lt
            have hown5 := own_far hown (only_of_below hB (some g)) hlt
            have hgr6 := hgr5.trans (World.grownBy_alloc w5 (.cells #[.string (idS k), .string (idS (k + 1))] 74) (some g))
            have ht6 := ht5.alloc (.cells #[.string (idS k), .string (idS (k + 1))] 74)
            have hown6 := hown5.alloc (.cells #[.string (idS k), .string (idS (k + 1))] 74)
            have hbk := Blk.new w5 74 #[.string (idS k), .string (idS (k + 1))]
            have hnx := next_any g _ B 4 _ ht6 (by omega) (by omega) (by omega)
            have HN := hide hnx
            have hs5 := hgr5.size
            have hl5 := ht5.lt
            clear hnx hown htk hgk hB4 hB5 hB hgr5 ht5 hown5
            go_wp2_with fail
            with_reducible refine HN.out.mono ?_
            rintro e w7 ⟨p, rfl, p0, p4, ht7, hg7⟩
            have hbk7 := hbk.grown hg7 (fun e => by have := Option.some.inj e; omega)
            have hgr7 := hgr6.trans hg7
            have hown7 := own_far hown6 hg7 hlt
            have d0 := hbk7.cell 0
            have d1 := hbk7.cell 1
            have hs7 := hgr7.size
            clear HN hgr6 ht6 hown6 hbk hbk7 hg7
            by_cases hp : 0 < p
            · have hrd := (Reads.of_own hown7).alloc (Nat.le_refl _) (.cells #[.string (idS k), .string (idS (k + 1))] 74)
              go_wp2_with (at_builtin; refine wpList_append_any (w7.alloc (.cells #[.string (idS k), .string (idS (k + 1))] 74)) rfl (.tmp 39) (.tmp 40) 30 rfl w7.heap.size 74 i0 _ 2 32 Tryd.underlying30 hi hz0 hz1 hz2 rfl (by omega) _ 1 _ rfl (World.ownsRow_lit w7 #[.string (idS k), .string (idS (k + 1))] 1 (Nat.le_refl _) (by decide) rfl) w7.heap.size A l c _ rfl hrd (lc_one _) (by unfold maxLen; omega) (by omega) (by simp) ?_; intro v8 w8 hown8 hg8 _)
              have hb8 : Below w7.heap.size w7 w8 := ((Below.refl w7.heap.size w7).alloc (Nat.le_refl _) (.cells #[.string (idS k), .string (idS (k + 1))] 74)).grown hg8 (by simp) (fun x hx => by have e : w7.heap.size = x := Option.some.inj hx; omega)
              have hown9 : w8.ownsRow w.heap.size 74 2 v8 (l + 1) (([((idS k, idS (k + 1)) : Lk)] ++ L).flatMap lc) := by
                rw [Nat.add_comm l 1]; exact ownsRow_base hown8 hs7
              have ht9 := (ht7.below hb8 ht7.lt).more (j' := j + 1 + 2 * 6 + 1 + 1 + (k + 1)) (by omega)
              have hg9 := hgr7.trans (only_of_below hb8 (some g))
              have hl9 : Hid (([((idS k, idS (k + 1)) : Lk)] ++ L).length = l + 1) := by show ([_] ++ L).length = l + 1; rw [List.length_append, Hl.out]; exact Nat.add_comm 1 l
              have hs9 : Hid (∀ r ∈ [((idS k, idS (k + 1)) : Lk)] ++ L, r.1.size ≤ 8 ∧ r.2.size ≤ 8) := short_app (short_one k (k + 1)) Hs.out
              go_roundw
              case rel => exact ⟨k + 1, l + 1, [((idS k, idS (k + 1)) : Lk)] ++ L, by omega, by omega, by go_num, hl9, hs9, hown9, ht9, hg9⟩
              case measure => simp [intOf]; omega
            · go_wp2_with fail
              go_roundw
              case rel => exact ⟨k + 1, l, L, by omega, by omega, by go_num, Hl, Hs, hown7, ht7.more (by omega), hgr7⟩
              case measure => simp [intOf]; omega
          · go_wp2
            go_ret
            exact ⟨_, L, rfl, by rw [Hl.out]; exact hown, by have := Hl.out; omega, Hs.out, htk.more (by omega), hgk⟩
      · have hune : (b == 0) = false := by simpa using hb
        go_wp2_with fail
        go_ret
        exact ⟨_, L, rfl, by rw [Hl.out]; exact hown1, by have := Hl.out; omega, Hs.out, ht1.more (by omega), hgr1⟩
end Go.Proofs.YtjgbadopladmdaaDoor
