/- The walk of RelaunchValid. -/
import Derived.Test.YtjgbadopladmdaaDoorRensW
import Derived.Test.YtjgbadopladmdaaDoorLinT
namespace Go.Proofs.YtjgbadopladmdaaDoor
open Go.RowKit Rel

/-- lines handed back, as SameLists reads them -/
theorem Lined.read {w : World} {base : Nat} {v : Value} {Ls : List (List ByteArray)} (h : Lined w base v Ls) : ∃ A c, v = .slice A Ls.length c ∧ RLines w A Ls.length Ls := by
  obtain ⟨zs, rfl, h2, h3⟩ := h
  obtain ⟨A, c, rfl, _, _⟩ := own_form h2
  rw [List.length_map]
  refine ⟨A, c, rfl, zs, rfl, rfl, Reads.of_own h2, fun p hp => ?_⟩
  have hp' := h3 p hp
  obtain ⟨a, c', e, _, _⟩ := own_form hp'
  unfold LineV at hp'
  rw [e] at hp'
  exact ⟨a, c', e, Reads.of_own hp'⟩
theorem lineFrom_len {L : List Lk} (s : ByteArray) : ∀ k id, (chain L k id).length ≤ k + 1
  | 0, _ => by simp [chain]
  | k + 1, id => by
    unfold chain
    cases forth L id with
    | none => simp
    | some o => have := lineFrom_len (L := L) s k o; simp; omega
theorem IsLinesOf.small {L : List Lk} {Ls : List (List ByteArray)} (h : IsLinesOf L Ls) (hL : L.length ≤ 1000) : Ls.length ≤ 1000 ∧ ∀ l ∈ Ls, l.length ≤ 100000 := by
  by_cases hz : errno L = 0
  · have hi := h.1 hz
    have hu := (good_of hz).1.uniq
    refine ⟨?_, fun l hl => ?_⟩
    · have hnd : (Ls.map fst).Nodup := by
        have hs := hi.sorted
        rw [List.Nodup, List.pairwise_map]
        exact hs.imp fun hb e => by
          have hb' : key (fst _) < key (fst _) := hb
          rw [e] at hb'
          exact List.lt_irrefl _ hb'
      have := nodup_le (Ls.map fst) (heads L) hnd (fun s hs => by
        obtain ⟨l, hl, rfl⟩ := List.mem_map.1 hs
        obtain ⟨t, ht, rfl⟩ := (hi.mem l).1 hl
        rw [fst_lineFrom]
        exact ht)
      have h2 := heads_len L
      rw [List.length_map] at this
      omega
    · obtain ⟨s, _, rfl⟩ := (hi.mem l).1 hl
      have := lineFrom_len (L := L) s L.length s
      unfold lineFrom
      omega
  · rw [h.2 hz]
    exact ⟨by simp, fun l hl => absurd hl (by simp)⟩

set_option maxHeartbeats 8000000 in
set_option maxRecDepth 100000 in
theorem valid_law (A2 A3 : Option Addr) (id : ByteArray) (n2 c2 n3 c3 B : Nat) (M : List Lk) (zs : List Int) (w : World)
    (h2 : Reads w B 2 A2 n2 (M.flatMap lc)) (l2 : n2 = M.length) (hc2 : n2 ≤ c2) (hid : id.size ≤ maxLen)
    (h3 : Reads w B 1 A3 n3 (zs.map (Value.int .i64))) (hn3 : n3 ≤ maxLen) (hB : B ≤ w.heap.size) :
    Calls Tryd.prog 10 #[.slice A2 n2 c2, .string id, .slice A3 n3 c3] w fun e w' => e = .returned (.bool true) ∧ Below w.heap.size w w' := by
  have L2 := hide l2
  clear l2
  have m1 : min (id.size : Int) 20 = ((min id.size 20 : Nat) : Int) := by omega
  have x1 : min id.size 20 ≤ id.size := Nat.min_le_left _ _
  generalize min id.size 20 = s1 at m1 x1
  have z1 : (s1 : Int) ≤ (id.size : Int) := by omega
  have ht1 : Tape (w.alloc (.cells #[.slice A3 n3 c3, .int .i64 0] 34)) B w.heap.size 0 := ⟨A3, n3, c3, 0, zs, Blk.new w 34 _, Nat.le_refl _, h3.alloc hB _, hB, hn3⟩
  have hall1 : Below w.heap.size w (w.alloc (.cells #[.slice A3 n3 c3, .int .i64 0] 34)) := (Below.refl w.heap.size w).alloc (Nat.le_refl _) (.cells #[.slice A3 n3 c3, .int .i64 0] 34)
  have hraw := raw_any A2 n2 c2 B M (w.alloc (.cells #[.slice A3 n3 c3, .int .i64 0] 34)) (h2.below (hall1.mono hB)) L2.out (by simp; omega) hc2
  have HW := hide hraw
  have HT1 := hide ht1
  have HA1 := hide hall1
  clear hraw ht1 hall1
  go_enter Tryd.func10, Tryd.ntmps10
  go_wp2_with fail
  have hq : (id.extract 0 s1).size ≤ maxLen := by rw [ByteArray.size_extract]; omega
  generalize id.extract 0 s1 = idq at hq ⊢
  with_reducible refine HW.out.mono ?_
  rintro e w2 ⟨v2, L1, rfl, hown2, hL1, hLs1, hB2⟩
  obtain ⟨A5, c5, rfl, hnc5, hcm5⟩ := own_form hown2
  have hz2 := hB2.size
  rw [World.size_alloc] at hz2
  have ht2 := HT1.out.below hB2 HT1.out.lt
  have hb2 := HA1.out.trans (hB2.mono (by simp))
  go_wp2_with fail
  with_reducible refine (links_any w.heap.size 0 B w2 ht2 (by omega)).mono ?_
  rintro e w3 ⟨v3, L2', rfl, hown3, hL2, hLs2, ht3, hg3⟩
  obtain ⟨A6, c6, rfl, hnc6, hcm6⟩ := own_form hown3
  have hz3 := hg3.size
  have hown2 := own_far hown2 hg3 (by simp)
  go_wp2_with fail
  with_reducible refine (chains_any w.heap.size (0 + 40) B w3 ht3 (by omega)).mono ?_
  rintro e w4 ⟨v4, J, rfl, hown4, hJn, hJ8, hJl, ht4, hg4⟩
  obtain ⟨A7, c7, rfl, hnc7, hcm7⟩ := own_form hown4
  have hz4 := hg4.size
  have hown2 := own_far hown2 hg4 (by simp)
  have hown3 := own_far hown3 hg4 (by omega)
  have hall : Below w.heap.size w w4 := (hb2.grown hg3 (by omega) (fun x hx => by have e : w.heap.size = x := Option.some.inj hx; omega)).grown hg4 (by omega) (fun x hx => by have e : w.heap.size = x := Option.some.inj hx; omega)
  have k1 := Links.of_small hown2 rfl (by omega) (fun r hr => by have := hLs1 r hr; omega)
  have k2 := Links.of_small hown3 rfl (by omega) (fun r hr => by have := hLs2 r hr; omega)
  have k3 := Links.of_chain hown4 (by omega)
  have K : Hid (∀ k : Nat, k < 3 → ∃ (A : Option Addr) (n c : Nat) (L : List Lk), (w4.alloc (.cells #[.slice A5 L1.length c5, .slice A6 L2'.length c6, .slice A7 J.length c7] 30)).cell? ⟨w4.heap.size, k, none⟩ = some (.slice A n c) ∧ Links w4 w4.heap.size A n L ∧ n ≤ c ∧ L.length ≤ 1000) := fun k hk => by
    obtain rfl | rfl | rfl : k = 0 ∨ k = 1 ∨ k = 2 := by omega
    · exact ⟨A5, L1.length, c5, L1, World.cell?_alloc_mark w4 _ 30 (0, 0) 0, k1, hnc5, by omega⟩
    · exact ⟨A6, L2'.length, c6, L2', World.cell?_alloc_mark w4 _ 30 (0, 0) 1, k2, hnc6, by omega⟩
    · exact ⟨A7, J.length, c7, J.map lk, World.cell?_alloc_mark w4 _ 30 (0, 0) 2, k3, hnc7, by simp; omega⟩
  have hb5 : Below w4.heap.size w4 (w4.alloc (.cells #[.slice A5 L1.length c5, .slice A6 L2'.length c6, .slice A7 J.length c7] 30)) := (Below.refl _ _).alloc (Nat.le_refl _) _
  have hsz5 : (w4.alloc (.cells #[.slice A5 L1.length c5, .slice A6 L2'.length c6, .slice A7 J.length c7] 30)).heap.size = w4.heap.size + 1 := by simp
  clear hown2 hown3 hown4 hg3 hg4 hB2 ht2 ht3 ht4 HW HT1 HA1 k1 k2 k3 hLs1 hLs2 hJ8 hJn h2 h3 hb2
  go_wp2
  generalize w4.alloc (.cells #[.slice A5 L1.length c5, .slice A6 L2'.length c6, .slice A7 J.length c7] 30) = w5 at K hb5 hsz5 ⊢
  go_loopw [27] (fun i wr => ∃ k : Nat, k ≤ 3 ∧ i = .int .i64 k ∧ Below w5.heap.size w5 wr) (fun i _ => 3 - (intOf i).toNat)
  case atStart => exact ⟨0, by omega, rfl, Below.refl _ _⟩
  case round =>
    obtain ⟨k, hk, rfl, hb⟩ := hrel
    have hzr := hb.size
    by_cases hlt : k < 3
    · obtain ⟨A, n, c, L, hcell, hlk, hnc, hLL⟩ := K.out k hlt
      have hcell' := (hb.cell (p := ⟨w4.heap.size, k, none⟩) (by show w4.heap.size < w5.heap.size; omega)).trans hcell
      have hbr := hb5.trans (hb.mono (by omega))
      have e1 := hide (validate_any A n c w4.heap.size L wr (hlk.below hbr) (by omega) hnc)
      clear hcell
      go_wp2_with fail
      with_reducible refine e1.out.mono ?_
      rintro e w6 ⟨rfl, hB6⟩
      have hz6 := hB6.size
      have hb6 := hbr.trans (hB6.mono (by omega))
      have e2 := hide (rvalidate_any A n c w4.heap.size L w6 (hlk.below hb6) (by omega) hnc)
      go_wp2_with fail
      with_reducible refine e2.out.mono ?_
      rintro e w7 ⟨rfl, hB7⟩
      have hz7 := hB7.size
      have hb7 := hb6.trans (hB7.mono (by omega))
      have e3 := hide (line_any A n c w4.heap.size L idq w7 (hlk.below hb7) (by omega) hnc hq)
      clear e1 e2
      go_wp2_with fail
      with_reducible refine e3.out.mono ?_
      rintro e w8 ⟨rfl, hB8⟩
      have hz8 := hB8.size
      have hb8 := hb7.trans (hB8.mono (by omega))
      have e4 := hide (rline_any A n c w4.heap.size L idq w8 (hlk.below hb8) (by omega) hnc)
      go_wp2_with fail
      with_reducible refine e4.out.mono ?_
      rintro e w9 ⟨rfl, hB9⟩
      have hz9 := hB9.size
      have hb9 := hb8.trans (hB9.mono (by omega))
      have e5 := hide (lines_any sorts_lines A n c w4.heap.size L w9 (hlk.below hb9) (by omega) hnc)
      clear e3 e4
      go_wp2_with fail
      with_reducible refine e5.out.mono ?_
      rintro e wa ⟨va, Ls, rfl, hlnA, hisA, hBa⟩
      obtain ⟨Aa, ca, rfl, hrA⟩ := hlnA.read
      have HisA := hide hisA
      have hza := hBa.size
      have hba := hb9.trans (hBa.mono (by omega))
      have e6 := hide (rlines_any A n c w4.heap.size L wa (hlk.below hba) (by omega) hnc)
      clear hisA hlnA
      go_wp2_with fail
      with_reducible refine e6.out.mono ?_
      rintro e wb ⟨vb, Ls', rfl, hlnB, hisB, hBb⟩
      obtain rfl := HisA.out.unique hisB
      obtain ⟨Ab, cb, rfl, hrB⟩ := hlnB.read
      have hsm := HisA.out.small hLL
      have hzb := hBb.size
      have hbb := hba.trans (hBb.mono (by omega))
      have e7 := hide (samelists_any Aa Ab ca cb Ls.length Ls wb (hrA.below hBb (Nat.le_refl _)) hrB (by omega) hsm.2)
      have hcell2 := hcell'
      clear e5 e6 hisB hlnB hrA hrB hsm HisA
      go_wp2_with fail
      with_reducible refine e7.out.mono ?_
      rintro e wc ⟨rfl, q, rfl⟩
      have hbc : Below w5.heap.size w5 (wb.drewN q) := below_drewN (hb.trans ((((((hB6.trans (hB7.mono hz6)).trans (hB8.mono (by omega))).trans (hB9.mono (by omega))).trans (hBa.mono (by omega))).trans (hBb.mono (by omega))).mono hzr)) q
      have hwc : Below w4.heap.size w4 (wb.drewN q) := below_drewN hbb q
      have hzc : w5.heap.size ≤ (wb.drewN q).heap.size := hbc.size
      generalize wb.drewN q = wc at hbc hwc hzc ⊢
      clear e7 hB6 hB7 hB8 hB9 hBa hBb hb6 hb7 hb8 hb9 hba hbb hb hbr hcell' hcell2
      go_wp2_with fail
      go_loopw [53] (fun i wr => ∃ j : Nat, j ≤ 9 ∧ i = .int .i64 j ∧ Below wc.heap.size wc wr) (fun i _ => 9 - (intOf i).toNat)
      case atStart => exact ⟨0, by omega, rfl, Below.refl _ _⟩
      case round =>
        obtain ⟨j, hj, rfl, hd⟩ := hrel
        have hzd := hd.size
        have hwd := hwc.trans (hd.mono (by omega))
        obtain ⟨wo, rfl⟩ : ∃ wo : World, wo = wr := ⟨_, rfl⟩
        by_cases hlt9 : j < 9
        · go_wp2_with fail
          with_reducible refine (id_is (j : Int) wo (by omega) (by omega)).mono ?_
          rintro e wp ⟨rfl, hBp⟩
          have hzp := hBp.size
          have hwp := hwd.trans (hBp.mono (by omega))
          have g1 := hide (line_any A n c w4.heap.size L (idS (j : Int)) wp (hlk.below hwp) (by omega) hnc (by rw [idS_size]; decide))
          go_wp2_with fail
          with_reducible refine g1.out.mono ?_
          rintro e wq ⟨rfl, hBq⟩
          have hzq := hBq.size
          have hwq := hwp.trans (hBq.mono (by omega))
          go_wp2_with fail
          with_reducible refine (id_is (j : Int) wq (by omega) (by omega)).mono ?_
          rintro e ws ⟨rfl, hBs⟩
          have hzs := hBs.size
          have hws := hwq.trans (hBs.mono (by omega))
          have g2 := hide (rline_any A n c w4.heap.size L (idS (j : Int)) ws (hlk.below hws) (by omega) hnc)
          clear g1
          go_wp2_with fail
          with_reducible refine g2.out.mono ?_
          rintro e wt ⟨rfl, hBt⟩
          have hend : Below wc.heap.size wc wt := hd.trans ((((hBp.trans (hBq.mono hzp)).trans (hBs.mono (by omega))).trans (hBt.mono (by omega))).mono hzd)
          clear g2 hBp hBq hBs hBt hwp hwq hws
          go_wp2
          go_roundw
          case rel => exact ⟨j + 1, by omega, by go_num, hend⟩
          case measure => simp [intOf]; omega
        · obtain rfl : j = 9 := by omega
          go_wp2
          go_roundw
          case rel => exact ⟨k + 1, by omega, by go_num, hbc.trans (hd.mono (by omega))⟩
          case measure => simp [intOf]; omega
    · obtain rfl : k = 3 := by omega
      go_wp2_with (go_at_call 27; with_reducible refine (rawake_any wr).mono ?_; rintro e w8 ⟨rfl, hB8⟩)
      go_ret
      exact ⟨rfl, hall.trans ((hb5.trans ((hb.trans (hB8.mono hzr)).mono (by omega))).mono (by omega))⟩
end Go.Proofs.YtjgbadopladmdaaDoor
