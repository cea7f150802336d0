/- The walk of RelaunchRenames. -/
import Derived.Test.YtjgbadopladmdaaDoorKeepW
import Derived.Test.YtjgbadopladmdaaDoorLinkW
import Derived.Test.YtjgbadopladmdaaDoorRawW
namespace Go.Proofs.YtjgbadopladmdaaDoor
open Go.RowKit Rel

theorem Links.of_small {w : World} {base c n : Nat} {A : Option Addr} {L : List Lk} (h : w.ownsRow base 74 2 (.slice A n c) n (L.flatMap lc)) (hl : n = L.length) (hn : n ≤ 1000) (hs : ∀ r ∈ L, r.1.size ≤ 1000 ∧ r.2.size ≤ 1000) : Links w w.heap.size A n L :=
  ⟨Reads.of_own h, hl, hs, by omega⟩
theorem renamed_len (L : List Lk) (R : List Rw) : (renamed L R).length ≤ R.length := by
  unfold renamed
  split <;> simp

set_option maxHeartbeats 8000000 in
set_option maxRecDepth 100000 in
theorem renames_law (A1 A2 A3 : Option Addr) (n1 c1 n2 c2 n3 c3 B : Nat) (R0 : List Rw) (M : List Lk) (zs : List Int) (w : World)
    (h1 : Reads w B 5 A1 n1 (R0.flatMap rc)) (l1 : n1 = R0.length) (s1 : ∀ r ∈ R0, r.p.size ≤ maxLen) (hc1 : n1 ≤ c1)
    (h2 : Reads w B 2 A2 n2 (M.flatMap lc)) (l2 : n2 = M.length) (hc2 : n2 ≤ c2)
    (h3 : Reads w B 1 A3 n3 (zs.map (Value.int .i64))) (hn3 : n3 ≤ maxLen) (hB : B ≤ w.heap.size) :
    Calls Tryd.prog 5 #[.slice A1 n1 c1, .slice A2 n2 c2, .slice A3 n3 c3] w fun e w' => e = .returned (.bool true) ∧ Below w.heap.size w w' := by
  have hmin : min (n1 : Int) 10 = ((min n1 10 : Nat) : Int) := by omega
  have hq1 : min n1 10 ≤ n1 := Nat.min_le_left _ _
  have hq2 : min n1 10 ≤ 10 := Nat.min_le_right _ _
  generalize min n1 10 = q at hmin hq1 hq2
  have hqc : (q : Int) ≤ (c1 : Int) := by omega
  have hr0 : Recs rc 5 w B A1 q (R0.take q) := by
    refine ⟨⟨by rw [flat_len rc_len, List.length_take]; omega, fun h0 => ?_⟩, by rw [List.length_take]; omega, by omega⟩
    obtain ⟨ad, e, hb, hc⟩ := h1.2 (by omega)
    refine ⟨ad, e, hb, fun j u hu => hc j u ?_⟩
    rw [← List.take_append_drop q R0, List.flatMap_append, List.getElem?_append_left ((List.getElem?_eq_some_iff.1 hu).1)]
    exact hu
  have hrs0 : Hid (∀ r ∈ R0.take q, r.p.size ≤ maxLen) := fun r hr => s1 r (List.mem_of_mem_take hr)
  generalize R0.take q = R at hr0 hrs0
  have L2 := hide l2
  clear l1 s1 h1 l2
  have ht0 : Tape (w.alloc (.cells #[.slice A3 n3 c3, .int .i64 0] 34)) B w.heap.size 0 := ⟨A3, n3, c3, 0, zs, Blk.new w 34 _, Nat.le_refl _, h3.alloc hB _, hB, hn3⟩
  have hcon : Calls Tryd.prog 20 #[.pointer (some ⟨w.heap.size, 0, none⟩), .int .i64 8] (w.alloc (.cells #[.slice A3 n3 c3, .int .i64 0] 34)) (MadeRs (w.alloc (.cells #[.slice A3 n3 c3, .int .i64 0] 34)) B w.heap.size 0 8) := rows_any w.heap.size 0 B 8 _ ht0 (by omega) (by omega)
  have HR := hide hcon
  clear hcon ht0
  go_enter Tryd.func5, Tryd.ntmps5
  go_wp2_with fail
  with_reducible refine HR.out.mono ?_
  rintro e w1 ⟨v1, R1, rfl, hown1, hR1, hRs1, ht1, hg1⟩
  obtain ⟨A4, c4, rfl, hnc4, hcm4⟩ := own_form hown1
  have hz1 := hg1.size
  have hz1' : w.heap.size + 1 ≤ w1.heap.size := by rw [World.size_alloc] at hz1; exact hz1
  have hall1 : Below w.heap.size w w1 := ((Below.refl w.heap.size w).alloc (Nat.le_refl _) (.cells #[.slice A3 n3 c3, .int .i64 0] 34)).grown hg1 (by simp) (fun x hx => by have e : w.heap.size = x := Option.some.inj hx; omega)
  have hraw := raw_any A2 n2 c2 B M w1 (h2.below (hall1.mono hB)) L2.out (by omega) hc2
  have HW := hide hraw
  clear hraw
  go_wp2_with fail
  with_reducible refine HW.out.mono ?_
  rintro e w2 ⟨v2, L1, rfl, hown2, hL1, hLs1, hB2⟩
  obtain ⟨A5, c5, rfl, hnc5, hcm5⟩ := own_form hown2
  have hz2 := hB2.size
  have ht2 := ht1.below hB2 ht1.lt
  have hown1 := own_far hown1 (only_of_below hB2 (some w.heap.size)) (by simp)
  go_wp2_with fail
  with_reducible refine (links_any w.heap.size (0 + 1 + 6 * 8) B w2 ht2 (by omega)).mono ?_
  rintro e w3 ⟨v3, L2', rfl, hown3, hL2, hLs2, ht3, hg3⟩
  obtain ⟨A6, c6, rfl, hnc6, hcm6⟩ := own_form hown3
  have hz3 := hg3.size
  have hown1 := own_far hown1 hg3 (by simp)
  have hown2 := own_far hown2 hg3 (by omega)
  go_wp2_with fail
  with_reducible refine (chains_any w.heap.size (0 + 1 + 6 * 8 + 40) B w3 ht3 (by omega)).mono ?_
  rintro e w4 ⟨v4, J, rfl, hown4, hJn, hJ8, hJl, ht4, hg4⟩
  obtain ⟨A7, c7, rfl, hnc7, hcm7⟩ := own_form hown4
  have hz4 := hg4.size
  have hown1 := own_far hown1 hg4 (by simp)
  have hown2 := own_far hown2 hg4 (by omega)
  have hown3 := own_far hown3 hg4 (by omega)
  have hall : Below w.heap.size w w4 := ((hall1.trans (hB2.mono (by omega))).grown hg3 (by omega) (fun x hx => by have e : w.heap.size = x := Option.some.inj hx; omega)).grown hg4 (by omega) (fun x hx => by have e : w.heap.size = x := Option.some.inj hx; omega)
  have k1 := Links.of_small hown2 rfl (by omega) (fun r hr => by have := hLs1 r hr; omega)
  have k2 := Links.of_small hown3 rfl (by omega) (fun r hr => by have := hLs2 r hr; omega)
  have k3 := Links.of_chain hown4 (by omega)
  have hrA := (hr0.below (hall.mono hB)).more (B' := w4.heap.size) (by omega)
  have hrM := Recs.of_own (f := rc) hown1 rfl (by omega)
  have HRs1 : Hid (∀ r ∈ R1, r.p.size ≤ maxLen) := fun r hr => by have := (hRs1 r hr).2; unfold maxLen; omega
  have K : Hid (∀ k : Nat, k < 3 → ∃ (A : Option Addr) (n c : Nat) (L : List Lk), (w4.alloc (.cells #[.slice A5 L1.length c5, .slice A6 L2'.length c6, .slice A7 J.length c7] 30)).cell? ⟨w4.heap.size, k, none⟩ = some (.slice A n c) ∧ Links w4 w4.heap.size A n L ∧ n ≤ c) := fun k hk => by
    obtain rfl | rfl | rfl : k = 0 ∨ k = 1 ∨ k = 2 := by omega
    · exact ⟨A5, L1.length, c5, L1, World.cell?_alloc_mark w4 _ 30 (0, 0) 0, k1, hnc5⟩
    · exact ⟨A6, L2'.length, c6, L2', World.cell?_alloc_mark w4 _ 30 (0, 0) 1, k2, hnc6⟩
    · exact ⟨A7, J.length, c7, J.map lk, World.cell?_alloc_mark w4 _ 30 (0, 0) 2, k3, hnc7⟩
  have hb5 : Below w4.heap.size w4 (w4.alloc (.cells #[.slice A5 L1.length c5, .slice A6 L2'.length c6, .slice A7 J.length c7] 30)) := (Below.refl _ _).alloc (Nat.le_refl _) _
  have hsz5 : (w4.alloc (.cells #[.slice A5 L1.length c5, .slice A6 L2'.length c6, .slice A7 J.length c7] 30)).heap.size = w4.heap.size + 1 := by simp
  clear hown1 hown2 hown3 hown4 hg1 hg3 hg4 hB2 ht1 ht2 ht3 ht4 HR HW k1 k2 k3 hRs1 hLs1 hLs2 hJ8 hJn hr0 h2 h3 hall1
  go_wp2
  generalize w4.alloc (.cells #[.slice A5 L1.length c5, .slice A6 L2'.length c6, .slice A7 J.length c7] 30) = w5 at K hb5 hsz5 ⊢
  go_loopw [29] (fun i wr => ∃ k : Nat, k ≤ 3 ∧ i = .int .i64 k ∧ Below w5.heap.size w5 wr) (fun i _ => 3 - (intOf i).toNat)
  case atStart => exact ⟨0, by omega, rfl, Below.refl _ _⟩
  case round =>
    obtain ⟨k, hk, rfl, hb⟩ := hrel
    have hzr := hb.size
    by_cases hlt : k < 3
    · obtain ⟨A, n, c, L, hcell, hlk, hnc⟩ := K.out k hlt
      have hcell' := (hb.cell (p := ⟨w4.heap.size, k, none⟩) (by show w4.heap.size < w5.heap.size; omega)).trans hcell
      have hbr := hb5.trans (hb.mono (by omega))
      have hlr := hlk.below hbr
      have hra := hrA.below hbr
      have hrm := hrM.below hbr
      have e1 := hide (rename_any A1 A q c1 n c w4.heap.size L R wr hlr hra (by omega) hnc hrs0.out)
      clear hcell
      go_wp2_with fail
      with_reducible refine e1.out.mono ?_
      rintro e w6 ⟨v6, rfl, hown6, hB6⟩
      obtain ⟨A8, c8, rfl, _, _⟩ := own_form hown6
      have hz6 := hB6.size
      have hb6 := hbr.trans (hB6.mono (by omega))
      have e2 := hide (rrename_any A1 A q c1 n c w4.heap.size L R w6 (hlk.below hb6) (hrA.below hb6) (by omega) hnc)
      go_wp2_with fail
      with_reducible refine e2.out.mono ?_
      rintro e w7 ⟨v7, rfl, hown7, hB7⟩
      obtain ⟨A9, c9, rfl, _, _⟩ := own_form hown7
      have hz7 := hB7.size
      have hb7 := hb6.trans (hB7.mono (by omega))
      have hown6 := own_below hown6 hB7 (own_block_lt hown6)
      have e3 := hide (same_rows A8 A9 _ c8 c9 w7.heap.size (renamed L R) w7 (Recs.of_own hown6 rfl (by have := renamed_len L R; have := hrA.len; omega)) (Recs.of_own hown7 rfl (by have := renamed_len L R; have := hrA.len; omega)))
      clear hown6 hown7 e1 e2
      go_wp2_with fail
      with_reducible refine e3.out.mono ?_
      rintro e w8 ⟨rfl, hB8⟩
      have hz8 := hB8.size
      have hb8 := hb7.trans (hB8.mono (by omega))
      clear e3
      have f1 := hide (rename_any A4 A R1.length c4 n c w4.heap.size L R1 w8 (hlk.below hb8) (hrM.below hb8) (by omega) hnc HRs1.out)
      go_wp2_with fail
      with_reducible refine f1.out.mono ?_
      rintro e w9 ⟨v9, rfl, hown9, hB9⟩
      obtain ⟨Aa, ca, rfl, _, _⟩ := own_form hown9
      have hz9 := hB9.size
      have hb9 := hb8.trans (hB9.mono (by omega))
      have f2 := hide (rrename_any A4 A R1.length c4 n c w4.heap.size L R1 w9 (hlk.below hb9) (hrM.below hb9) (by omega) hnc)
      go_wp2_with fail
      with_reducible refine f2.out.mono ?_
      rintro e wa ⟨va, rfl, howna, hBa⟩
      obtain ⟨Ab, cb, rfl, _, _⟩ := own_form howna
      have hza := hBa.size
      have hba := hb9.trans (hBa.mono (by omega))
      have hown9 := own_below hown9 hBa (own_block_lt hown9)
      have f3 := hide (same_rows Aa Ab _ ca cb wa.heap.size (renamed L R1) wa (Recs.of_own hown9 rfl (by have := renamed_len L R1; omega)) (Recs.of_own howna rfl (by have := renamed_len L R1; omega)))
      clear hown9 howna f1 f2
      go_wp2_with fail
      with_reducible refine f3.out.mono ?_
      rintro e wb ⟨rfl, hBb⟩
      have hend : Below w5.heap.size w5 wb := hb.trans ((((((hB6.trans (hB7.mono hz6)).trans (hB8.mono (by omega))).trans (hB9.mono (by omega))).trans (hBa.mono (by omega))).trans (hBb.mono (by omega))).mono hzr)
      clear f3
      go_wp2
      go_roundw
      case rel => exact ⟨k + 1, by omega, by go_num, hend⟩
      case measure => simp [intOf]; omega
    · obtain rfl : k = 3 := by omega
      go_wp2_with (go_at_call 27; with_reducible refine (rawake_any wr).mono ?_; rintro e w8 ⟨rfl, hB8⟩)
      go_ret
      exact ⟨rfl, hall.trans ((hb5.trans ((hb.trans (hB8.mono hzr)).mono (by omega))).mono (by omega))⟩
end Go.Proofs.YtjgbadopladmdaaDoor
