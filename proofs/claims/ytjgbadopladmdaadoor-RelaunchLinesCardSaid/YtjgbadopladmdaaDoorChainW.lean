/- The walk of chains: valid relaunches of a tape. -/
import Derived.Test.YtjgbadopladmdaaDoorChainP
import Derived.Test.YtjgbadopladmdaaDoorTapeV
import Derived.Deep.RegionHeld3
import Derived.Deep.AppendLies
import Derived.Deep.DrawnRows
namespace Go.Proofs.YtjgbadopladmdaaDoor
open Go.RowKit Rel

theorem info74 : (Tryd.prog.info? 74).map (fun i => (i.zero, i.size, i.bytes)) = some (some (.agg #[.string ⟨#[]⟩, .string ⟨#[]⟩]), 2, 32) := by kernel_rfl

theorem lc_len (r : Lk) : (lc r).length = 2 := rfl
theorem flat_drop {α : Type} {f : α → List Value} {s : Nat} (hf : ∀ a, (f a).length = s) (L : List α) (p : Nat) (hp : p ≤ L.length) : (L.flatMap f).drop (p * s) = (L.drop p).flatMap f := by
  have h : (L.flatMap f) = (L.take p).flatMap f ++ (L.drop p).flatMap f := by rw [← List.flatMap_append, List.take_append_drop]
  rw [h]
  exact List.drop_left' (by rw [flat_len hf, List.length_take, Nat.min_eq_left hp])
theorem ins_cells (J : List Nat) (p k : Nat) (hp : p ≤ J.length) (cs : Array Value) (hcs : cs = #[.string (idS (k : Int)), .string (idS ((k : Int) + 1))]) :
    (((J.take p).map lk).flatMap lc ++ cs.toList) ++ ((J.map lk).flatMap lc).drop (p * 2) = ((J.take p ++ [k] ++ J.drop p).map lk).flatMap lc := by
  subst hcs
  rw [flat_drop lc_len _ _ (by simpa using hp), ← List.map_drop, List.map_append, List.map_append, List.flatMap_append, List.flatMap_append]
  rfl
theorem ins_len (J : List Nat) (p k : Nat) (hp : p ≤ J.length) : (J.take p ++ [k] ++ J.drop p).length = J.length + 1 := by
  simp; omega
theorem lc_one (L : List Lk) : ∀ u ∈ L.flatMap lc, u.oneCell' = true := by
  intro u hu
  obtain ⟨r, _, h⟩ := List.mem_flatMap.1 hu
  unfold lc at h
  simp only [List.mem_cons, List.not_mem_nil, or_false] at h
  rcases h with rfl | rfl <;> rfl
theorem lc_one_drop (L : List Lk) (m : Nat) : ∀ u ∈ (L.flatMap lc).drop m, u.oneCell' = true := fun u hu => lc_one L u (List.mem_of_mem_drop hu)
theorem reads_blk {w : World} {gb t B : Nat} {cs : Array Value} (h : Blk w gb t cs) (hB : gb < B) (s : Nat) (hcs : cs.size = s) : Reads w B s (some ⟨gb, 0, none⟩) 1 cs.toList := by
  refine ⟨by simpa using hcs, fun _ => ⟨_, rfl, hB, fun j u hu => ?_⟩⟩
  have ha : (⟨gb, 0, none⟩ : Addr).add j = ⟨gb, j, none⟩ := by unfold Addr.add; split <;> simp_all
  rw [ha, h.cell j, ← hu, Array.getElem?_toList]
theorem grown_same {W W0 w' : World} {row : Option Nat} (hg : W.grownBy w' row) (h1 : W0.os = W.os) (h2 : W0.tape = W.tape) (h3 : W0.output = W.output) (h4 : W0.heap = W.heap) : W0.grownBy w' row :=
  ⟨hg.os.trans h1.symm, hg.tape.trans h2.symm, hg.output.trans h3.symm, by rw [h4]; exact hg.size, fun i hi hne => by rw [h4] at hi ⊢; exact hg.block i hi hne⟩

/-- a maker of valid relaunches -/
def MadeC (w : World) (B g j : Nat) (e : Ending) (w' : World) : Prop :=
  ∃ (v : Value) (J : List Nat), e = .returned v ∧ w'.ownsRow w.heap.size 74 2 v J.length ((J.map lk).flatMap lc) ∧ J.Nodup ∧ (∀ a ∈ J, a < 8) ∧ J.length ≤ 8 ∧ Tape w' B g (j + 16) ∧ w.grownBy w' (some g)

set_option maxHeartbeats 4000000 in
set_option maxRecDepth 100000 in
theorem chains_any (g j B : Nat) (w : World) (ht : Tape w B g j) (hj : j ≤ 10000) :
    Calls Tryd.prog 23 #[.pointer (some ⟨g, 0, none⟩)] w (MadeC w B g j) := by
  obtain ⟨i0, hi, hz0, hz1, hz2⟩ := info_parts info74
  have hlt := ht.lt
  have hBg := ht.base
  go_enter Tryd.func23, Tryd.ntmps23
  go_wp2
  go_loopw [3, 8] (fun v i wr => ∃ (k : Nat) (J : List Nat), k ≤ 8 ∧ i = .int .i64 k ∧ Hid (J.Nodup) ∧ Hid (∀ a ∈ J, a < k) ∧ J.length ≤ k ∧ wr.ownsRow w.heap.size 74 2 v J.length ((J.map lk).flatMap lc) ∧ Tape wr B g (j + 2 * k) ∧ w.grownBy wr (some g)) (fun _ i _ => 8 - (intOf i).toNat)
  case atStart => exact ⟨0, [], by omega, rfl, (show ([] : List Nat).Nodup from List.nodup_nil), (show ∀ a ∈ ([] : List Nat), a < 0 from fun a ha => by cases ha), Nat.zero_le _, ownsRow_nil' _ _ _ _, ht, only_of_below (Below.refl _ _) _⟩
  case round =>
    obtain ⟨k, J, hk, rfl, Hn, Hb, hJk, hown, htk, hgk⟩ := hrel
    have hz := hgk.size
    have hltk := htk.lt
    by_cases hlt8 : k < 8
    · go_wp2_with fail
      with_reducible refine (next_any g (j + 2 * k) B 3 wr htk (by omega) (by omega) (by omega)).mono ?_
      rintro e w1 ⟨u, rfl, u0, u3, ht1, hg1⟩
      have hown1 := own_far hown hg1 hlt
      have hgr1 := hgk.trans hg1
      have hs1 := hg1.size
      clear hown htk hgk hg1
      obtain ⟨A, c, rfl, hnc, hcm⟩ := own_form hown1
      by_cases hu : u = 0
      · subst hu
        go_wp2_with fail
        go_roundw
        case rel => exact ⟨k + 1, J, by omega, by go_num, Hn, (show ∀ a ∈ J, a < k + 1 from fun a ha => Nat.lt_succ_of_lt (Hb.out a ha)), by omega, hown1, ht1.more (by omega), hgr1⟩
        case measure => simp [intOf]; omega
      · have hune : (u == 0) = false := by simpa using hu
        go_wp2_with fail
        with_reducible refine (id_is k w1 (by omega) (by omega)).mono ?_
        rintro e w2 ⟨rfl, hB2⟩
        go_wp2_with fail
        with_reducible refine (id_is (k + 1) w2 (by omega) (by omega)).mono ?_
        rintro e w3 ⟨rfl, hB3⟩
        have hs2 := hB2.size
        have hs3 := hB3.size
        have hB13 := below_trans hB2 hB3
        have ht3 := (ht1.below hB13 ht1.lt).alloc (.cells #[.string (idS k), .string (idS (k + 1))] 74)
        have hg3 := (only_of_below hB13 (some g)).trans (World.grownBy_alloc w3 (.cells #[.string (idS k), .string (idS (k + 1))] 74) (some g))
        have hnext := next_any g (j + 2 * k + 1) B (J.length + 1) (w3.alloc (.cells #[.string (idS k), .string (idS (k + 1))] 74)) ht3 (by omega) (by omega) (by omega)
        have HN := hide hnext
        clear hnext
        go_wp2_with fail
        with_reducible refine HN.out.mono ?_
        rintro e w4 ⟨p, rfl, p0, p1, ht4, hg4⟩
        obtain ⟨p, rfl⟩ := Int.eq_ofNat_of_zero_le p0
        have hbx := (Blk.new w3 74 #[.string (idS k), .string (idS (k + 1))]).grown hg4 (fun e => by have := Option.some.inj e; omega)
        have hown3 := own_far hown1 (hg3.trans hg4) hlt
        have hgr4 := hgr1.trans (hg3.trans hg4)
        have hs4 := hg4.size
        have hrd := Reads.of_own hown3
        go_upto_region 8 with (fail)
        have d0 : w4.cell? ⟨w3.heap.size, 0, none⟩ = some (.string (idS k)) := hbx.cell 0
        have d1 : w4.cell? ⟨w3.heap.size, 1, none⟩ = some (.string (idS (k + 1))) := hbx.cell 1
        have q0 : (p : Int) ≤ (J.length : Int) := by omega
        have q1 : (p : Int) ≤ (c : Int) := by omega
        have hl3 : w3.heap.size < w4.heap.size := hbx.lt
        have Hown := hide hown3
        have Hrd := hide hrd
        have HT := hide ht4
        have HG4 := hide hgr4
        have E1 := hide (World.ownsRow_lit (size := 2) w4 #[] (e := 74) 0 (Nat.le_refl w4.heap.size) (by decide) rfl)
        have E2 := hide (E1.out.alloc (.cells #[.string (idS k), .string (idS (k + 1))] 74))
        have hE3 := (World.ownsRow_lit (size := 2) (base := w4.heap.size) (w4.alloc (.cells #[.string (idS k), .string (idS (k + 1))] 74)) #[] (e := 74) 0 (by simp) (by decide) rfl)
        rw [World.size_alloc] at hE3
        have E3 := hide hE3
        clear hE3
        have F1 := hide ((Below.refl w4.heap.size w4).alloc (Nat.le_refl _) (.cells #[] 74))
        have F2 := hide (F1.out.alloc (by simp) (.cells #[.string (idS k), .string (idS (k + 1))] 74))
        have F3 := hide (((Below.refl w4.heap.size w4).alloc (Nat.le_refl _) (.cells #[.string (idS k), .string (idS (k + 1))] 74)).alloc (by simp) (.cells #[] 74))
        have hrp := ((Recs.of_own (f := lc) hown3 (by simp) (by omega)).cut lc_len p (by omega)).reads
        rw [← List.map_take] at hrp
        have HR : Hid (∀ W, Below w4.heap.size w4 W → Reads W w4.heap.size 2 A p (((J.take p).map lk).flatMap lc)) := fun W hW => hrp.below hW
        have hrc := hrd.cut (cap := c) (k := p) (by omega) hnc
        have HRC : Hid (∀ W, Below w4.heap.size w4 W → Reads W w4.heap.size 2 (if c = p then A else A.map (·.add (p * 2))) (J.length - p) (((J.map lk).flatMap lc).drop (p * 2))) := fun W hW => hrc.below hW
        clear hrc
        clear hown3 hrd ht4 ht1 hown1 hgr1 HN hB2 hB3 hB13 ht3 hg3 hg4 hrp hgr4 hbx
        go_region_held3 (fun w' => w'.cell? ⟨w3.heap.size, 0, none⟩ = some (.string (idS k)) ∧ w'.cell? ⟨w3.heap.size, 1, none⟩ = some (.string (idS (k + 1)))) (go_keep)
          (first
            | ((refine step_append_any _ (by rfl) (.tmp 25) (.tmp 28) _ (by rfl) w4.heap.size 74 i0 _ 2 32 Tryd.underlying30 hi hz0 hz1 hz2 rfl (by omega) _ 0 [] (by rfl) (by exact E1.out) w4.heap.size A p c _ (by rfl) (by have h := HR.out _ F1.out; exact h) (lc_one _) (by unfold maxLen; omega) (by omega) (by first | omega | (simp; done) | (simp; omega)) ?_
                intro v6 w6 hown6 hg6 _
                have hg6' : World.grownBy (w4.alloc (.cells #[] 74)) w6 (some w4.heap.size) := grown_same hg6 rfl rfl rfl rfl
                have hb6 := F1.out.grown hg6' (by first | omega | (simp; done) | (simp; omega)) (fun x hx => by have := Option.some.inj hx; omega)
                have hs6 := hb6.size
                skip
                have k0 := (hb6.cell (p := ⟨w3.heap.size, 0, none⟩) hl3).trans d0
                have k1 := (hb6.cell (p := ⟨w3.heap.size, 1, none⟩) hl3).trans d1
                clear hg6 hg6'))
            | ((refine step_append_any _ (by rfl) (.tmp 25) (.tmp 28) _ (by rfl) w4.heap.size 74 i0 _ 2 32 Tryd.underlying30 hi hz0 hz1 hz2 rfl (by omega) _ 0 [] (by rfl) (by exact E2.out) w4.heap.size A p c _ (by rfl) (by have h := HR.out _ F2.out; exact h) (lc_one _) (by unfold maxLen; omega) (by omega) (by first | omega | (simp; done) | (simp; omega)) ?_
                intro v6 w6 hown6 hg6 _
                have hg6' : World.grownBy ((w4.alloc (.cells #[] 74)).alloc (.cells #[.string (idS k), .string (idS (k + 1))] 74)) w6 (some w4.heap.size) := grown_same hg6 rfl rfl rfl rfl
                have hb6 := F2.out.grown hg6' (by first | omega | (simp; done) | (simp; omega)) (fun x hx => by have := Option.some.inj hx; omega)
                have hs6 := hb6.size
                have blk6 := (Blk.new (w4.alloc (.cells #[] 74)) 74 #[.string (idS k), .string (idS (k + 1))]).grown hg6' (by simp)
                rw [World.size_alloc] at blk6
                have k0 := (hb6.cell (p := ⟨w3.heap.size, 0, none⟩) hl3).trans d0
                have k1 := (hb6.cell (p := ⟨w3.heap.size, 1, none⟩) hl3).trans d1
                clear hg6 hg6'))
            | ((refine step_append_any _ (by rfl) (.tmp 25) (.tmp 28) _ (by rfl) w4.heap.size 74 i0 _ 2 32 Tryd.underlying30 hi hz0 hz1 hz2 rfl (by omega) _ 0 [] (by rfl) (by exact E3.out) w4.heap.size A p c _ (by rfl) (by have h := HR.out _ F3.out; exact h) (lc_one _) (by unfold maxLen; omega) (by omega) (by first | omega | (simp; done) | (simp; omega)) ?_
                intro v6 w6 hown6 hg6 _
                have hg6' : World.grownBy ((w4.alloc (.cells #[.string (idS k), .string (idS (k + 1))] 74)).alloc (.cells #[] 74)) w6 (some (w4.heap.size + 1)) := grown_same hg6 rfl rfl rfl rfl
                have hb6 := F3.out.grown hg6' (by first | omega | (simp; done) | (simp; omega)) (fun x hx => by have := Option.some.inj hx; omega)
                have hs6 := hb6.size
                have blk6 := ((Blk.new w4 74 #[.string (idS k), .string (idS (k + 1))]).alloc (.cells #[] 74)).grown hg6' (by simp)
                have k0 := (hb6.cell (p := ⟨w3.heap.size, 0, none⟩) hl3).trans d0
                have k1 := (hb6.cell (p := ⟨w3.heap.size, 1, none⟩) hl3).trans d1
                clear hg6 hg6'))
            | ((refine step_append_any _ (by rfl) (.tmp 29) (.tmp 31) _ (by rfl) w4.heap.size 74 i0 _ 2 32 Tryd.underlying30 hi hz0 hz1 hz2 rfl (by omega) _ (0 + p) _ (by rfl) (by exact hown6) (w6.heap.size + 1) (some ⟨w4.heap.size + 1, 0, none⟩) 1 1 (#[Value.string (idS k), .string (idS (k + 1))] : Array Value).toList (by rfl) (by exact reads_blk blk6 (Nat.lt_succ_of_lt blk6.lt) 2 rfl) (by simp [Value.oneCell']) (by unfold maxLen; omega) (by omega) (by first | omega | (simp; done) | (simp; omega)) ?_
                intro v7 w7 hown7 hg7 _
                have hb7 := below_own hb6 hown6 (grown_same hg7 rfl rfl rfl rfl) (Nat.le_refl _) hs6
                have k0' := (hb7.cell (p := ⟨w3.heap.size, 0, none⟩) hl3).trans d0
                have k1' := (hb7.cell (p := ⟨w3.heap.size, 1, none⟩) hl3).trans d1
                clear hg7))
            | ((refine step_append_any _ (by rfl) (.tmp 29) (.tmp 31) _ (by rfl) w4.heap.size 74 i0 _ 2 32 Tryd.underlying30 hi hz0 hz1 hz2 rfl (by omega) _ (0 + p) _ (by rfl) (by exact hown6) (w6.heap.size + 1) (some ⟨w4.heap.size, 0, none⟩) 1 1 (#[Value.string (idS k), .string (idS (k + 1))] : Array Value).toList (by rfl) (by exact reads_blk blk6 (Nat.lt_succ_of_lt blk6.lt) 2 rfl) (by simp [Value.oneCell']) (by unfold maxLen; omega) (by omega) (by first | omega | (simp; done) | (simp; omega)) ?_
                intro v7 w7 hown7 hg7 _
                have hb7 := below_own hb6 hown6 (grown_same hg7 rfl rfl rfl rfl) (Nat.le_refl _) hs6
                have k0' := (hb7.cell (p := ⟨w3.heap.size, 0, none⟩) hl3).trans d0
                have k1' := (hb7.cell (p := ⟨w3.heap.size, 1, none⟩) hl3).trans d1
                clear hg7))
            | ((refine step_append_any _ (by rfl) (.tmp 29) (.tmp 31) _ (by rfl) w4.heap.size 74 i0 _ 2 32 Tryd.underlying30 hi hz0 hz1 hz2 rfl (by omega) _ (0 + p) _ (by rfl) (by exact hown6.alloc _) (w6.heap.size + 1) (some ⟨w6.heap.size, 0, none⟩) 1 1 (#[Value.string (idS k), .string (idS (k + 1))] : Array Value).toList (by rfl) (by exact reads_blk (Blk.new w6 74 #[.string (idS k), .string (idS (k + 1))]) (by omega) 2 rfl) (by simp [Value.oneCell']) (by unfold maxLen; omega) (by omega) (by first | omega | (simp; done) | (simp; omega)) ?_
                intro v7 w7 hown7 hg7 _
                have hb7 := below_own (hb6.alloc hs6 (.cells #[.string (idS k), .string (idS (k + 1))] 74)) (hown6.alloc _) (grown_same hg7 rfl rfl rfl rfl) (Nat.le_refl _) (by simp; omega)
                have k0' := (hb7.cell (p := ⟨w3.heap.size, 0, none⟩) hl3).trans d0
                have k1' := (hb7.cell (p := ⟨w3.heap.size, 1, none⟩) hl3).trans d1
                clear hg7)))
        all_goals
          have hs7 := hb7.size
          clear k0 k1 k0' k1' d0 d1
          go_wp2_with (at_builtin; refine wpList_append_any w7 rfl (.tmp 33) (.tmp 36) 30 rfl w4.heap.size 74 i0 _ 2 32 Tryd.underlying30 hi hz0 hz1 hz2 rfl (by omega) _ (0 + p + 1) _ rfl hown7 w4.heap.size _ (J.length - p) _ _ rfl (HRC.out w7 hb7) (lc_one_drop _ _) (by unfold maxLen; omega) (by omega) hs7 ?_; intro v8 w8 hown8 hg8 _)
          have hb8 := below_own hb7 hown7 hg8 (Nat.le_refl _) hs7
          have hown9 : w8.ownsRow w.heap.size 74 2 v8 (J.take p ++ [k] ++ J.drop p).length (((J.take p ++ [k] ++ J.drop p).map lk).flatMap lc) := by
            rw [ins_len J p k (by omega), ← ins_cells J p k (by omega) _ rfl]
            rw [show 0 + p + 1 + (J.length - p) = J.length + 1 by omega] at hown8
            exact ownsRow_base hown8 HG4.out.size
          have ht9 := (HT.out.below hb8 HT.out.lt).more (j' := j + 2 * (k + 1)) (by omega)
          have hg9 := HG4.out.trans (only_of_below hb8 (some g))
          have hn9 : Hid ((J.take p ++ [k] ++ J.drop p).Nodup) := nodup_insert_at Hn.out (fun h => Nat.lt_irrefl k (Hb.out k h))
          have hb9 : Hid (∀ a ∈ J.take p ++ [k] ++ J.drop p, a < k + 1) := fun a ha => by
            rcases mem_insert_at.1 ha with rfl | h
            · exact Nat.lt_succ_self _
            · exact Nat.lt_succ_of_lt (Hb.out a h)
          have hl9 : (J.take p ++ [k] ++ J.drop p).length ≤ k + 1 := by rw [ins_len J p k (by omega)]; omega
          clear hown8 hg8 hb8 hb7 hown7
          go_roundw
          case rel => exact ⟨k + 1, J.take p ++ [k] ++ J.drop p, by omega, by go_num, hn9, hb9, hl9, hown9, ht9, hg9⟩
          case measure => simp [intOf]; omega
    · obtain rfl : k = 8 := by omega
      go_wp2
      go_ret
      exact ⟨_, J, rfl, hown, Hn.out, Hb.out, hJk, htk.more (by omega), hgk⟩
end Go.Proofs.YtjgbadopladmdaaDoor
