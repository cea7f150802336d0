/- The walk of RelaunchKeeps. -/
import Derived.Test.YtjgbadopladmdaaDoorChainW
import Derived.Test.YtjgbadopladmdaaDoorSameW
namespace Go.Proofs.YtjgbadopladmdaaDoor
open Go.RowKit Rel

theorem awake_chain : lineOf [lk 2, lk 1] (idS 3) = idS 1 := by
  have h : errno ([2, 1].map lk) = 0 := chain_ok (by decide) (fun a ha => by simp at ha; omega) (by decide)
  have h' : errno [lk 2, lk 1] = 0 := h
  rw [lineOf_ok h']
  have e1 : idS ((2 : Nat) : Int) ≠ idS 3 := fun e => by have := idS_inj (by omega) (by omega) e; omega
  have hn : ∀ x : Int, 0 ≤ x → x < 100 → x ≠ 1 → idS 1 ≠ idS x := fun x h0 h1 h2 e => h2 (idS_inj (by omega) (by omega) e).symm
  have b3 : back [lk 2, lk 1] (idS 3) = some (idS 2) := by
    unfold back
    rw [List.find?_cons_of_pos (by show decide ((lk 2).2 = idS 3) = true; rw [decide_eq_true_eq]; rfl)]
    rfl
  have b2 : back [lk 2, lk 1] (idS 2) = some (idS 1) := by
    unfold back
    rw [List.find?_cons_of_neg (by show ¬ decide ((lk 2).2 = idS 2) = true; rw [decide_eq_true_eq]; exact fun e => by have := idS_inj (a := ((2 : Nat) : Int) + 1) (b := 2) (by omega) (by omega) e; omega),
      List.find?_cons_of_pos (by show decide ((lk 1).2 = idS 2) = true; rw [decide_eq_true_eq]; rfl)]
    rfl
  have b1 : back [lk 2, lk 1] (idS 1) = none := by
    unfold back
    rw [List.find?_cons_of_neg (by show ¬ decide ((lk 2).2 = idS 1) = true; rw [decide_eq_true_eq]; exact fun e => by have := idS_inj (a := ((2 : Nat) : Int) + 1) (b := 1) (by omega) (by omega) e; omega),
      List.find?_cons_of_neg (by show ¬ decide ((lk 1).2 = idS 1) = true; rw [decide_eq_true_eq]; exact fun e => by have := idS_inj (a := ((1 : Nat) : Int) + 1) (b := 1) (by omega) (by omega) e; omega)]
    rfl
  unfold line
  rw [show ([lk 2, lk 1] : List Lk).length + 1 = 0 + 1 + 1 + 1 from rfl, top_some _ b3, top_some _ b2, top_none _ b1]

set_option maxHeartbeats 4000000 in
set_option maxRecDepth 100000 in
theorem rawake_any (w : World) : Calls Tryd.prog 27 #[] w fun e w' => e = .returned (.bool true) ∧ Below w.heap.size w w' := by
  go_enter Tryd.func27, Tryd.ntmps27
  go_wp2_with fail
  with_reducible refine (id_is 1 w (by omega) (by omega)).mono ?_
  rintro e w1 ⟨rfl, hB1⟩
  go_wp2_with fail
  with_reducible refine (id_is 2 w1 (by omega) (by omega)).mono ?_
  rintro e w2 ⟨rfl, hB2⟩
  go_wp2_with fail
  with_reducible refine (id_is 3 w2 (by omega) (by omega)).mono ?_
  rintro e w3 ⟨rfl, hB3⟩
  have hB := below_trans (below_trans hB1 hB2) hB3
  clear hB1 hB2 hB3
  have hr : Reads (w3.alloc (.cells #[.string (idS 2), .string (idS 3), .string (idS 1), .string (idS 2)] 74)) (w3.heap.size + 1) 2 (some ⟨w3.heap.size, 0, none⟩) 2 ([lk 2, lk 1].flatMap lc) := by
    refine ⟨rfl, fun _ => ⟨_, rfl, Nat.lt_succ_self _, fun j u hu => ?_⟩⟩
    have ha : (⟨w3.heap.size, 0, none⟩ : Addr).add j = ⟨w3.heap.size, j, none⟩ := by unfold Addr.add; split <;> simp_all
    rw [ha, World.cell?_alloc_mark w3 _ 74 (0, 0) j, ← hu, ← Array.getElem?_toList]
    rfl
  have hk : Links (w3.alloc (.cells #[.string (idS 2), .string (idS 3), .string (idS 1), .string (idS 2)] 74)) (w3.heap.size + 1) (some ⟨w3.heap.size, 0, none⟩) 2 [lk 2, lk 1] := by
    refine ⟨hr, rfl, fun r hr => ?_, by omega⟩
    simp only [List.mem_cons, List.not_mem_nil, or_false] at hr
    rcases hr with rfl | rfl <;> exact ⟨by show (idS _).size ≤ 1000; rw [idS_size]; omega, by show (idS _).size ≤ 1000; rw [idS_size]; omega⟩
  have hcon := line_any (some ⟨w3.heap.size, 0, none⟩) 2 2 (w3.heap.size + 1) [lk 2, lk 1] (idS 3) _ hk (by simp) (Nat.le_refl _) (by rw [idS_size]; decide)
  rw [awake_chain] at hcon
  have HC := hide hcon
  clear hcon hr hk
  go_wp2_with fail
  with_reducible refine HC.out.mono ?_
  rintro e w4 ⟨rfl, hB4⟩
  go_wp2
  go_ret
  exact ⟨rfl, hB.trans (((Below.refl w.heap.size w3).alloc hB.size _).trans (hB4.mono (by have := hB.size; simp; omega)))⟩

theorem top_size {L : List Lk} (hL : ∀ r ∈ L, r.1.size ≤ 1000) : ∀ (k : Nat) (id : ByteArray), id.size ≤ 1000 → (top L k id).size ≤ 1000
  | 0, id, h => h
  | k + 1, id, h => by
    cases hb : back L id with
    | none => rw [top_none _ hb]; exact h
    | some o => rw [top_some k hb]; exact top_size hL k o (hL _ (back_mem hb))
theorem Links.of_chain {w : World} {base c : Nat} {A : Option Addr} {J : List Nat} (h : w.ownsRow base 74 2 (.slice A J.length c) J.length ((J.map lk).flatMap lc)) (hl : J.length ≤ 1000) : Links w w.heap.size A J.length (J.map lk) := by
  refine ⟨Reads.of_own h, by simp, fun r hr => ?_, by omega⟩
  obtain ⟨a, _, rfl⟩ := List.mem_map.1 hr
  exact ⟨by show (idS _).size ≤ 1000; rw [idS_size]; omega, by show (idS _).size ≤ 1000; rw [idS_size]; omega⟩

set_option maxHeartbeats 4000000 in
set_option maxRecDepth 100000 in
theorem keeps_law (A : Option Addr) (n c B : Nat) (zs : List Int) (w : World) (hr : Reads w B 1 A n (zs.map (Value.int .i64))) (hB : B ≤ w.heap.size) (hn : n ≤ maxLen) :
    Calls Tryd.prog 6 #[.slice A n c] w fun e w' => e = .returned (.bool true) ∧ Below w.heap.size w w' := by
  have ht0 : Tape (w.alloc (.cells #[.slice A n c, .int .i64 0] 34)) B w.heap.size 0 := ⟨A, n, c, 0, zs, Blk.new w 34 _, Nat.le_refl _, hr.alloc hB _, hB, hn⟩
  have hcon : Calls Tryd.prog 20 #[.pointer (some ⟨w.heap.size, 0, none⟩), .int .i64 10] (w.alloc (.cells #[.slice A n c, .int .i64 0] 34)) (MadeRs (w.alloc (.cells #[.slice A n c, .int .i64 0] 34)) B w.heap.size 0 10) := rows_any w.heap.size 0 B 10 _ ht0 (by omega) (by omega)
  have HR := hide hcon
  clear hcon ht0
  go_enter Tryd.func6, Tryd.ntmps6
  go_wp2_with fail
  with_reducible refine HR.out.mono ?_
  rintro e w1 ⟨v1, R, rfl, hown1, hR, hRs, ht1, hg1⟩
  obtain ⟨A1, c1, rfl, hnc1, hcm1⟩ := own_form hown1
  go_wp2_with fail
  with_reducible refine (chains_any w.heap.size (0 + 1 + 6 * 10) B w1 ht1 (by omega)).mono ?_
  rintro e w2 ⟨v2, J, rfl, hown2, hJn, hJ8, hJl, ht2, hg2⟩
  obtain ⟨A2, c2, rfl, hnc2, hcm2⟩ := own_form hown2
  have hown1 := own_far hown1 hg2 (by simp)
  have hz1 := hg1.size
  have hz2 := hg2.size
  have hz1' : w.heap.size ≤ w1.heap.size := by rw [World.size_alloc] at hz1; omega
  have hlk := Links.of_chain hown2 (by omega)
  have hrs := Recs.of_own (f := rc) hown1 rfl (by omega)
  have herr : errno (J.map lk) = 0 := chain_ok hJn (fun a ha => by have := hJ8 a ha; omega) (by omega)
  have hren := rename_any A1 A2 R.length c1 J.length c2 w2.heap.size (J.map lk) R w2 hlk hrs (Nat.le_refl _) hnc2 (fun r hr => by have := (hRs r hr).2; unfold maxLen; omega)
  have HN := hide hren
  clear hren
  go_wp2_with fail
  with_reducible refine HN.out.mono ?_
  rintro e w3 ⟨v3, rfl, hown3, hB3⟩
  have hrenamed : renamed (J.map lk) R = R.map (ren (J.map lk)) := if_pos herr
  rw [hrenamed, List.length_map] at hown3
  obtain ⟨A3, c3, rfl, hnc3, hcm3⟩ := own_form hown3
  have hz3 := hB3.size
  have hgot := Recs.of_own (f := rc) hown3 (by simp) (by omega)
  have hrs3 := hrs.below hB3
  have hlk3 := hlk.below hB3
  have hgood := (good_of herr).1
  have Hgood := hide hgood
  have Herr := hide herr
  have HRs := hide hRs
  have hall : Below w.heap.size w w3 := ((((Below.refl w.heap.size w).alloc (Nat.le_refl _) (.cells #[.slice A n c, .int .i64 0] 34)).grown hg1 (by simp) (fun x hx => by have := Option.some.inj hx; omega)).grown hg2 hz1' (fun x hx => by have := Option.some.inj hx; omega)).trans (hB3.mono (by omega))
  clear hown1 hown2 hown3 HN HR hg1 hg2 ht1 ht2 hgood herr hRs hrenamed hB3
  go_wp2
  go_loopw [27] (fun i wr => ∃ k : Nat, k ≤ R.length ∧ i = .int .i64 k ∧ Below w3.heap.size w3 wr) (fun i _ => R.length - (intOf i).toNat)
  case atStart => exact ⟨0, Nat.zero_le _, rfl, Below.refl _ _⟩
  case round =>
    obtain ⟨k, hk, rfl, hb⟩ := hrel
    have hz4 := hb.size
    by_cases hlt : k < R.length
    · obtain ⟨ad, r, rfl, hab, hRk, c0, cj⟩ := (hrs3.below (hb.mono hz3)).at_ rc_len (by omega) hlt
      have hps := (HRs.out r (List.mem_of_getElem? hRk)).2
      have HRk := hide hRk
      have c1' := cj 1 (by omega) (by omega)
      have c2' := cj 2 (by omega) (by omega)
      have c3' := cj 3 (by omega) (by omega)
      have c4' := cj 4 (by omega) (by omega)
      obtain ⟨ro, rp, ra, rb, rcc⟩ := r
      have hps : rp.size ≤ 8 := hps
      simp only [rc, List.getElem?_cons_zero, List.getElem?_cons_succ] at c0 c1' c2' c3' c4'
      clear cj hRk
      have hst : Calls Tryd.prog 28 #[.slice A2 J.length c2, .string rp] (wr.alloc (.cells #[.string ro, .string rp, .int .i64 ra, .int .i64 rb, .int .i64 rcc] 43)) fun e w' => e = .returned (.string (line (J.map lk) rp)) ∧ Below (wr.alloc (.cells #[.string ro, .string rp, .int .i64 ra, .int .i64 rb, .int .i64 rcc] 43)).heap.size (wr.alloc (.cells #[.string ro, .string rp, .int .i64 ra, .int .i64 rb, .int .i64 rcc] 43)) w' := by
        have h := line_any A2 J.length c2 w2.heap.size (J.map lk) rp (wr.alloc (.cells #[.string ro, .string rp, .int .i64 ra, .int .i64 rb, .int .i64 rcc] 43)) ((hlk3.below (hb.mono hz3)).below ((Below.refl w2.heap.size wr).alloc (by omega) _)) (by simp; omega) hnc2 (by unfold maxLen; omega)
        rwa [lineOf_ok Herr.out] at h
      have HST := hide hst
      clear hst
      go_wp2_with fail
      with_reducible refine HST.out.mono ?_
      rintro e w4 ⟨rfl, hB4⟩
      have hz5 := hB4.size
      have hlb : wr.heap.size < (wr.alloc (.cells #[.string ro, .string rp, .int .i64 ra, .int .i64 rb, .int .i64 rcc] 43)).heap.size := by simp
      have hbk := (Blk.new wr 43 #[.string ro, .string rp, .int .i64 ra, .int .i64 rb, .int .i64 rcc]).below hB4 hlb
      have e1 := hbk.cell 1
      have ef := hbk.frozen 1
      have hb4 := ((hb.alloc hz4 (.cells #[.string ro, .string rp, .int .i64 ra, .int .i64 rb, .int .i64 rcc] 43)).trans (hB4.mono (by simp; omega))).setCell (p := ⟨wr.heap.size, 1, none⟩) hz4 (.string (line (J.map lk) rp))
      have hbk2 := hbk.set_ 1 (.string (line (J.map lk) rp))
      go_upto_region 11 with (fail)
      obtain ⟨ad3, r3, rfl, hab3, hR3, d0, dj⟩ := (hgot.below hb4).at_ rc_len (by omega) hlt
      rw [List.getElem?_map, HRk.out] at hR3
      obtain rfl := Option.some.inj hR3
      have d1 := dj 1 (by omega) (by omega)
      have d2 := dj 2 (by omega) (by omega)
      have d3 := dj 3 (by omega) (by omega)
      have d4 := dj 4 (by omega) (by omega)
      simp only [rc, ren, List.getElem?_cons_zero, List.getElem?_cons_succ] at d0 d1 d2 d3 d4
      have f0 := hbk2.cell 0
      have f1 := hbk2.cell 1
      have f2 := hbk2.cell 2
      have f3 := hbk2.cell 3
      have f4 := hbk2.cell 4
      clear dj hR3 hbk hbk2 hB4 e1 ef c0 c1' c2' c3' c4'
      generalize w4.setCell ⟨wr.heap.size, 1, none⟩ (.string (line (J.map lk) rp)) = w5 at hb4 d0 d1 d2 d3 d4 f0 f1 f2 f3 f4 ⊢
      simp only [List.getElem?_toArray, List.setIfInBounds_toArray, List.set_cons_succ, List.set_cons_zero, List.getElem?_cons_zero, List.getElem?_cons_succ] at f0 f1 f2 f3 f4
      go_quiet (fail)
      go_wp2
      go_roundw
      case rel => exact ⟨k + 1, by omega, by go_num, below_drewN hb4 _⟩
      case measure => simp [intOf]; omega
    · obtain rfl : k = R.length := by omega
      have hren2 := rename_any A3 A2 R.length c3 J.length c2 wr.heap.size (J.map lk) (R.map (ren (J.map lk))) wr ((hlk3.below (hb.mono hz3)).more (by omega)) ((hgot.below hb).more hz4) (Nat.le_refl _) hnc2 (fun r hr => by
        obtain ⟨x, hx, rfl⟩ := List.mem_map.1 hr
        have h1 := (HRs.out x hx).2
        have h2 := top_size (fun y hy => (hlk.short y hy).1) (J.map lk).length.succ x.p (by omega)
        exact Nat.le_trans h2 (by unfold maxLen; omega))
      have HN2 := hide hren2
      clear hren2
      go_wp2_with fail
      with_reducible refine HN2.out.mono ?_
      rintro e w6 ⟨v6, rfl, hown6, hB6⟩
      have hrenamed : renamed (J.map lk) (R.map (ren (J.map lk))) = R.map (ren (J.map lk)) := (if_pos Herr.out).trans (ren_ren Hgood.out R)
      rw [hrenamed, List.length_map] at hown6
      obtain ⟨A6, c6, rfl, _, _⟩ := own_form hown6
      have hz6 := hB6.size
      have hagain := Recs.of_own (f := rc) hown6 (by simp) (by omega)
      have hgot6 := ((hgot.below hb).more hz4).below hB6
      have hsame := same_rows A6 A3 R.length c6 c3 w6.heap.size (R.map (ren (J.map lk))) w6 hagain (hgot6.more hz6)
      have HSM := hide hsame
      clear hsame
      go_wp2_with fail
      with_reducible refine HSM.out.mono ?_
      rintro e w7 ⟨rfl, hB7⟩
      go_wp2_with (go_at_call 27; with_reducible refine (rawake_any w7).mono ?_; rintro e w8 ⟨rfl, hB8⟩)
      go_ret
      exact ⟨rfl, hall.trans ((hb.trans ((below_trans (below_trans hB6 hB7) hB8).mono hz4)).mono (by omega))⟩
end Go.Proofs.YtjgbadopladmdaaDoor
