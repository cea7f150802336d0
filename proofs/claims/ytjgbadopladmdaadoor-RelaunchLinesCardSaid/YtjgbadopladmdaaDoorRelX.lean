/- relaunch.Validate: the walk. -/
import Derived.Test.YtjgbadopladmdaaDoorRelE
import Derived.Test.YtjgbadopladmdaaDoorTapeW
namespace Go.Proofs.YtjgbadopladmdaaDoor
open Go.RowKit Rel

theorem valid_is (s : ByteArray) (b : Bool) (h : Dig.vid s.data.toList = b) (hs : s.size ≤ 1000) (w : World) : Calls Tryd.prog 16 #[.string s] w fun e w' => e = .returned (.bool b) ∧ Below w.heap.size w w' := by
  rw [← h]; exact valid_any s w (by omega)

theorem bad1 {o m : ByteArray} (h : Dig.vid o.data.toList = false) : badLk (o, m) = true := by simp [badLk, h]
theorem bad2 {o m : ByteArray} (h : Dig.vid m.data.toList = false) : badLk (o, m) = true := by simp [badLk, h]
theorem bad3 {o m : ByteArray} (h : (o.toList == m.toList) = true) : badLk (o, m) = true := by simp [badLk, h]
theorem bad0 {o m : ByteArray} (h1 : Dig.vid o.data.toList = true) (h2 : Dig.vid m.data.toList = true) (h : (o.toList == m.toList) = false) : badLk (o, m) = false := by simp [badLk, h1, h2, h]
theorem code183 {L : List Lk} {k : Nat} {r : Lk} (h : badLk r = true) : codeOf L k r = 183 := by simp [codeOf, h]
theorem code184 {L : List Lk} {k : Nat} {r : Lk} (h : badLk r = false) (h2 : (L.take k).any (fun x => share x r) = true) : codeOf L k r = 184 := by
  unfold codeOf; rw [h, h2]; rfl
theorem code0 {L : List Lk} {k : Nat} {r : Lk} (h : badLk r = false) (h2 : (L.take k).any (fun x => share x r) = false) : codeOf L k r = 0 := by
  unfold codeOf; rw [h, h2]; rfl

theorem any_cyc_next {L : List Lk} {k : Nat} {r : Lk} (h : L[k]? = some r) (h1 : (L.take k).any (cyc L) = false) (h2 : cyc L r = false) : (L.take (k + 1)).any (cyc L) = false := by
  rw [Rel.take_at h, List.any_append, h1]; simp [h2]
theorem eq_true_eq {a b : ByteArray} (h : (a.toList == b.toList) = true) : a = b := by
  rw [str_eq, decide_eq_true_eq] at h
  exact h
theorem ne_false_ne {a b : ByteArray} (h : (a.toList == b.toList) = false) : a ≠ b := by
  rw [str_eq, decide_eq_false_iff_not] at h
  exact h
theorem box_cells {w w1 : World} {o m : ByteArray} (hB : Below (w.alloc (.cells #[.string o, .string m] 74)).heap.size (w.alloc (.cells #[.string o, .string m] 74)) w1) :
    w1.cell? ⟨w.heap.size, 0, none⟩ = some (.string o) ∧ w1.cell? ⟨w.heap.size, 1, none⟩ = some (.string m) :=
  ⟨(hB.cell (p := ⟨w.heap.size, 0, none⟩) (by simp)).trans (World.cell?_alloc_mark w _ 74 (0, 0) 0), (hB.cell (p := ⟨w.heap.size, 1, none⟩) (by simp)).trans (World.cell?_alloc_mark w _ 74 (0, 0) 1)⟩

set_option maxHeartbeats 4000000 in
set_option maxRecDepth 100000 in
theorem validate_any (A : Option Addr) (n c B : Nat) (L : List Lk) (w : World) (h : Links w B A n L) (hB : B ≤ w.heap.size) (hcap : n ≤ c) :
    Calls Tryd.prog 41 #[.slice A n c] w fun e w' => e = .returned (.int .i64 (errno L)) ∧ Below w.heap.size w w' := by
  have hsm := h.small
  have hl := h.len
  have Hl := hide hl
  clear hl
  by_cases hlen : 200 < n
  · have he : errno L = 180 := by unfold errno; rw [if_pos (by have := Hl.out; omega)]
    rw [he]
    clear he
    go_enter Tryd.func41, Tryd.ntmps41
    go_wp2
    go_ret
    exact ⟨rfl, Below.refl _ _⟩
  · go_enter Tryd.func41, Tryd.ntmps41
    go_wp2
    go_loopw [16] (fun i wr => ∃ k : Nat, k ≤ n ∧ i = .int .i64 k ∧ Hid (ph1 L k = 0) ∧ Below w.heap.size w wr) (fun i _ => n - (intOf i).toNat)
    case atStart => exact ⟨0, Nat.zero_le _, rfl, rfl, Below.refl _ _⟩
    case round =>
      obtain ⟨k, hk, rfl, Hp, hb⟩ := hrel
      have hz := hb.size
      by_cases hlt : k < n
      · have hw := (h.below (hb.mono hB))
        obtain ⟨ad, o, m, rfl, hab, hL, d0, d1, hs0, hs1⟩ := hw.at_ hlt
        have HL := hide hL
        have HW := hide hw
        clear hL hw
        have hbn := hb.alloc hz (.cells #[.string o, .string m] 74)
        have hzn : w.heap.size ≤ (wr.alloc (.cells #[.string o, .string m] 74)).heap.size := by simp; omega
        cases hv1 : Dig.vid o.data.toList
        · have hc1 := valid_is o false hv1 hs0
          have Hv1 := hide hv1
          have HC1 := hide hc1
          clear hv1 hc1
          go_wp2_with (go_at_call 16; with_reducible refine (HC1.out _).mono ?_; rintro e w1 ⟨rfl, hB1⟩)
          go_ret
          exact ⟨ret_i (ph1_stop Hp.out HL.out (code183 (bad1 Hv1.out)) (by omega) (by have := Hl.out; omega)).symm, hbn.trans (hB1.mono hzn)⟩
        · have hc1 := valid_is o true hv1 hs0
          have Hv1 := hide hv1
          have HC1 := hide hc1
          clear hv1 hc1
          cases hv2 : Dig.vid m.data.toList
          · have hc2 := valid_is m false hv2 hs1
            have Hv2 := hide hv2
            have HC2 := hide hc2
            clear hv2 hc2
            go_wp2_with fail
            with_reducible refine (HC1.out _).mono ?_
            rintro e w1 ⟨rfl, hB1⟩
            obtain ⟨y0, y1⟩ := box_cells hB1
            go_wp2_with fail
            with_reducible refine (HC2.out _).mono ?_
            rintro e w2 ⟨rfl, hB2⟩
            go_wp2
            go_ret
            exact ⟨ret_i (ph1_stop Hp.out HL.out (code183 (bad2 Hv2.out)) (by omega) (by have := Hl.out; omega)).symm, (hbn.trans (hB1.mono hzn)).trans (hB2.mono (Nat.le_trans hzn hB1.size))⟩
          · have hc2 := valid_is m true hv2 hs1
            have Hv2 := hide hv2
            have HC2 := hide hc2
            clear hv2 hc2
            cases heq : (o.toList == m.toList)
            · have Hbad := hide (bad0 Hv1.out Hv2.out heq)
              go_wp2_with fail
              with_reducible refine (HC1.out _).mono ?_
              rintro e w1 ⟨rfl, hB1⟩
              obtain ⟨y0, y1⟩ := box_cells hB1
              go_wp2_with fail
              with_reducible refine (HC2.out _).mono ?_
              rintro e w2 ⟨rfl, hB2⟩
              have hz1 := hB1.size
              have hz2 := hB2.size
              have x0 := (hB2.cell (p := ⟨wr.heap.size, 0, none⟩) (by simp at hz1; simp; omega)).trans y0
              have x1 := (hB2.cell (p := ⟨wr.heap.size, 1, none⟩) (by simp at hz1; simp; omega)).trans y1
              clear y0 y1
              have hb2 := (hbn.trans (hB1.mono hzn)).trans (hB2.mono (Nat.le_trans hzn hB1.size))
              have hW2 := (HW.out.cut k hk).below ((((Below.refl B wr).alloc (Nat.le_trans hB hz) (.cells #[.string o, .string m] 74)).trans (hB1.mono (Nat.le_trans hB hzn))).trans (hB2.mono (Nat.le_trans (Nat.le_trans hB hzn) hz1)))
              have hcc := contains_any (some ad) k c B (L.take k) o m wr.heap.size w2 hW2 (Nat.le_trans (Nat.le_trans (Nat.le_trans hB hzn) hz1) hz2) x0 x1
              clear hW2
              cases hsh : (L.take k).any (fun x => share x (o, m))
              · rw [hsh] at hcc
                have Hsh := hide hsh
                have HCC := hide hcc
                clear hsh hcc
                go_wp2_with (go_at_call 66; with_reducible refine HCC.out.mono ?_; rintro e w3 ⟨rfl, hB3⟩)
                go_roundw
                case rel => exact ⟨k + 1, by omega, by go_num, (ph1_next Hp.out HL.out).trans (code0 Hbad.out Hsh.out), hb2.trans (hB3.mono (Nat.le_trans (Nat.le_trans hzn hz1) hz2))⟩
                case measure => simp [intOf]; omega
              · rw [hsh] at hcc
                have Hsh := hide hsh
                have HCC := hide hcc
                clear hsh hcc
                go_wp2_with (go_at_call 66; with_reducible refine HCC.out.mono ?_; rintro e w3 ⟨rfl, hB3⟩)
                go_ret
                exact ⟨ret_i (ph1_stop Hp.out HL.out (code184 Hbad.out Hsh.out) (by omega) (by have := Hl.out; omega)).symm, hb2.trans (hB3.mono (Nat.le_trans (Nat.le_trans hzn hz1) hz2))⟩
            · have Heq := hide heq
              go_wp2_with fail
              with_reducible refine (HC1.out _).mono ?_
              rintro e w1 ⟨rfl, hB1⟩
              obtain ⟨y0, y1⟩ := box_cells hB1
              go_wp2_with fail
              with_reducible refine (HC2.out _).mono ?_
              rintro e w2 ⟨rfl, hB2⟩
              have hz1 := hB1.size
              have x0 := (hB2.cell (p := ⟨wr.heap.size, 0, none⟩) (by simp at hz1; simp; omega)).trans y0
              have x1 := (hB2.cell (p := ⟨wr.heap.size, 1, none⟩) (by simp at hz1; simp; omega)).trans y1
              go_wp2
              go_ret
              exact ⟨ret_i (ph1_stop Hp.out HL.out (code183 (bad3 Heq.out)) (by omega) (by have := Hl.out; omega)).symm, (hbn.trans (hB1.mono hzn)).trans (hB2.mono (Nat.le_trans hzn hB1.size))⟩
      · obtain rfl : k = n := by omega
        have hp0 : ph1 L L.length = 0 := by have := Hp.out; rw [Hl.out] at this; exact this
        have Hp0 := hide hp0
        have Hu := hide (uniq_ph1 hp0)
        have hcon := sides_any A k c B L wr (h.below (hb.mono hB)) (Nat.le_trans hB hz) Hu.out
        have HS := hide hcon
        clear hcon hp0 hlt hk
        go_wp2_with fail
        with_reducible refine HS.out.mono ?_
        rintro e w2 ⟨b1, b2, rfl, hb1, hb2, hm1, hm2, hB2⟩
        have hbw := hb.trans (hB2.mono hz)
        have hz2 := hB2.size
        have hlt1 := hm1.lt
        clear hm2 hb2
        go_wp2
        go_loopw [51] (fun i wr => ∃ k2 : Nat, k2 ≤ k ∧ i = .int .i64 k2 ∧ Hid ((L.take k2).any (cyc L) = false) ∧ Below w2.heap.size w2 wr) (fun i _ => k - (intOf i).toNat)
        case atStart => exact ⟨0, Nat.zero_le _, rfl, rfl, Below.refl _ _⟩
        case round =>
          obtain ⟨k2, hk2, rfl, Hc, hbx⟩ := hrel
          obtain ⟨wo, rfl⟩ : ∃ wo : World, wo = wr := ⟨_, rfl⟩
          have hbo := hbw.trans (hbx.mono (Nat.le_trans hz hz2))
          have hzo := hbx.size
          have hmo := hm1.below hbx hlt1
          by_cases hlt : k2 < k
          · obtain ⟨ad, o, m, rfl, hab, hL, d0, d1, hs0, hs1⟩ := (h.below (hbo.mono hB)).at_ hlt
            have HL := hide hL
            have Hmem := hide (List.mem_of_getElem? hL)
            clear hL
            have hmb := hmo.alloc (.cells #[.string o, .string m] 74)
            have hbn := hbx.alloc hzo (.cells #[.string o, .string m] 74)
            go_wp2
            go_loopg [9, 10] (L.length + 1) (fun g x mo wi => ∃ (cur : ByteArray) (more : Bool), x = .string cur ∧ mo = .bool more ∧ Hid (Fwd L (o, m) g cur more) ∧ wo.alloc (.cells #[.string o, .string m] 74) = wi ∧ cur.size ≤ maxLen)
            case atStart => exact ⟨m, true, rfl, rfl, fwd_start L (o, m), rfl, by unfold maxLen; omega⟩
            case round =>
              obtain ⟨cur, more, rfl, rfl, Hf, rfl, hcs⟩ := hrel
              cases more
              · have Hcy := hide (fwd_out Hu.out Hmem.out Hf.out)
                go_wp2
                go_roundw
                case rel => exact ⟨k2 + 1, by omega, by go_num, any_cyc_next HL.out Hc.out Hcy.out, hbn⟩
                case measure => simp [intOf]; omega
              · cases hcq : (cur.toList == o.toList)
                · have Hne := hide (ne_false_ne hcq)
                  go_wp2_with (at_lookup; refine wpList_look _ rfl _ _ rfl b1 L.length _ rfl hmb cur rfl hcs ?_; intro v hvs hv; have Hv := hide hv; clear hv)
                  obtain ⟨g', e, hg'⟩ := fwd_next Hu.out Hmem.out Hf.out Hne.out v Hv.out
                  go_roundg g'
                  case measure => omega
                  case rel => exact ⟨v, _, rfl, rfl, hg', rfl, hvs⟩
                · have Hcy := hide (fwd_hit Hu.out Hmem.out Hf.out (eq_true_eq hcq))
                  go_wp2
                  go_ret
                  exact ⟨ret_i (errno_cyc (by have := Hl.out; omega) Hp0.out HL.out Hcy.out).symm, hbw.trans (hbn.mono (Nat.le_trans hz hz2))⟩
          · go_wp2
            go_ret
            obtain rfl : k2 = k := by omega
            have e := Hc.out
            have hl := Hl.out
            rw [List.take_of_length_le (by omega)] at e
            exact ⟨ret_i (errno_ok (by omega) Hp0.out e).symm, hbo⟩
end Go.Proofs.YtjgbadopladmdaaDoor
