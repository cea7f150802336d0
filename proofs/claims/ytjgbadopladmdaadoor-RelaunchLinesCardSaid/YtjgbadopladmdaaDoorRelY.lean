/- The reference's Validate of relaunches: the walk. -/
import Derived.Test.YtjgbadopladmdaaDoorRelX
namespace Go.Proofs.YtjgbadopladmdaaDoor
open Go.RowKit Rel

theorem rvalid_is (s : ByteArray) (b : Bool) (h : Dig.vid s.data.toList = b) (w : World) : Calls Tryd.prog 17 #[.string s] w fun e w' => e = .returned (.bool b) ∧ w = w' := by
  rw [← h]; exact rvalid_any s w

/-- where the reference's walk back stands after j steps -/
def Bwd (L : List Lk) (r : Lk) (j : Nat) (cur : ByteArray) (ok : Bool) : Prop :=
  (ok = true → iter (back L) j r.1 = some cur) ∧ (ok = false → iter (back L) j r.1 = none)
theorem bwd_start (L : List Lk) (r : Lk) : Bwd L r 0 r.1 true := ⟨fun _ => rfl, fun h => by cases h⟩
theorem bwd_next {L : List Lk} {r : Lk} {j : Nat} {cur : ByteArray} (h : Bwd L r j cur true) : Bwd L r (j + 1) ((back L cur).getD ⟨#[]⟩) (back L cur).isSome := by
  have h1 := h.1 rfl
  have h5 : iter (back L) (j + 1) r.1 = back L cur := by rw [iter_succ, h1]; rfl
  refine ⟨fun hm => ?_, fun hm => ?_⟩
  · obtain ⟨y, hy⟩ := Option.isSome_iff_exists.1 hm
    rw [h5, hy]; rfl
  · rw [h5]
    cases hf : back L cur with
    | none => rfl
    | some y => rw [hf] at hm; cases hm
theorem bwd_out {L : List Lk} {r : Lk} {j : Nat} {cur : ByteArray} (h : Bwd L r j cur false) (hj : j ≤ L.length + 1) : cyc L r = false := by
  unfold cyc
  cases hc : (iter (back L) (L.length + 1) r.1).isSome
  · rfl
  · have := iter_some_le _ _ hc hj
    rw [h.2 rfl] at this; cases this
theorem bwd_hit {L : List Lk} {r : Lk} {cur : ByteArray} (h : Bwd L r (L.length + 1) cur true) : cyc L r = true := by
  unfold cyc; rw [h.1 rfl]; rfl

theorem share_old {a b o m : ByteArray} (h : (a.toList == o.toList) = true) : share (a, b) (o, m) = true := by simp [share, h]
theorem share_new {a b o m : ByteArray} (h : (b.toList == m.toList) = true) : share (a, b) (o, m) = true := by simp [share, h]
theorem share_no {a b o m : ByteArray} (h1 : (a.toList == o.toList) = false) (h2 : (b.toList == m.toList) = false) : share (a, b) (o, m) = false := by simp [share, h1, h2]
theorem any_take_hit {L : List Lk} {j k : Nat} {x r : Lk} (hx : L[j]? = some x) (hj : j < k) (h : share x r = true) : (L.take k).any (fun y => share y r) = true :=
  List.any_eq_true.2 ⟨x, List.mem_of_getElem? (i := j) (by rw [List.getElem?_take_of_lt hj]; exact hx), h⟩

set_option maxHeartbeats 8000000 in
set_option maxRecDepth 100000 in
theorem rvalidate_any (A : Option Addr) (n c B : Nat) (L : List Lk) (w : World) (h : Links w B A n L) (hB : B ≤ w.heap.size) (hcap : n ≤ c) :
    Calls Tryd.prog 42 #[.slice A n c] w fun e w' => e = .returned (.int .i64 (errno L)) ∧ Below w.heap.size w w' := by
  have hsm := h.small
  have hl := h.len
  have Hl := hide hl
  clear hl
  by_cases hlen : 200 < n
  · have he : errno L = 180 := by unfold errno; rw [if_pos (by have := Hl.out; omega)]
    rw [he]
    clear he
    go_enter Tryd.func42, Tryd.ntmps42
    go_wp2
    go_ret
    exact ⟨rfl, Below.refl _ _⟩
  · go_enter Tryd.func42, Tryd.ntmps42
    go_wp2
    go_loopw [17] (fun i wr => ∃ k : Nat, k ≤ n ∧ i = .int .i64 k ∧ Hid (ph1 L k = 0) ∧ Below w.heap.size w wr) (fun i _ => n - (intOf i).toNat)
    case atStart => exact ⟨0, Nat.zero_le _, rfl, rfl, Below.refl _ _⟩
    case round =>
      obtain ⟨k, hk, rfl, Hp, hb⟩ := hrel
      obtain ⟨wo, rfl⟩ : ∃ wo : World, wo = wr := ⟨_, rfl⟩
      have hz := hb.size
      by_cases hlt : k < n
      · have hw := (h.below (hb.mono hB))
        obtain ⟨ad, o, m, rfl, hab, hL, d0, d1, hs0, hs1⟩ := hw.at_ hlt
        have HL := hide hL
        have HW := hide hw
        clear hL hw
        have hbn := hb.alloc hz (.cells #[.string o, .string m] 74)
        have hzn : w.heap.size ≤ (wo.alloc (.cells #[.string o, .string m] 74)).heap.size := by simp; omega
        cases hv1 : Dig.vid o.data.toList
        · have hc1 := rvalid_is o false hv1
          have Hv1 := hide hv1
          have HC1 := hide hc1
          clear hv1 hc1
          go_wp2_with (go_at_call 17; with_reducible refine (HC1.out _).mono ?_; rintro e w1 ⟨rfl, rfl⟩)
          go_ret
          exact ⟨ret_i (ph1_stop Hp.out HL.out (code183 (bad1 Hv1.out)) (by omega) (by have := Hl.out; omega)).symm, hbn⟩
        · have hc1 := rvalid_is o true hv1
          have Hv1 := hide hv1
          have HC1 := hide hc1
          clear hv1 hc1
          cases hv2 : Dig.vid m.data.toList
          · have hc2 := rvalid_is m false hv2
            have Hv2 := hide hv2
            have HC2 := hide hc2
            clear hv2 hc2
            go_wp2_with fail
            with_reducible refine (HC1.out _).mono ?_
            rintro e w1 ⟨rfl, rfl⟩
            go_wp2_with fail
            with_reducible refine (HC2.out _).mono ?_
            rintro e w2 ⟨rfl, rfl⟩
            go_wp2
            go_ret
            exact ⟨ret_i (ph1_stop Hp.out HL.out (code183 (bad2 Hv2.out)) (by omega) (by have := Hl.out; omega)).symm, hbn⟩
          · have hc2 := rvalid_is m true hv2
            have Hv2 := hide hv2
            have HC2 := hide hc2
            clear hv2 hc2
            cases heq : (o.toList == m.toList)
            · have Hbad := hide (bad0 Hv1.out Hv2.out heq)
              go_wp2_with fail
              with_reducible refine (HC1.out _).mono ?_
              rintro e w1 ⟨rfl, rfl⟩
              go_wp2_with fail
              with_reducible refine (HC2.out _).mono ?_
              rintro e w2 ⟨rfl, rfl⟩
              have hW2 := (HW.out.cut k hk).below ((Below.refl B wo).alloc (Nat.le_trans hB hz) (.cells #[.string o, .string m] 74))
              have x0 : (wo.alloc (.cells #[.string o, .string m] 74)).cell? ⟨wo.heap.size, 0, none⟩ = some (.string o) := World.cell?_alloc_mark wo _ 74 (0, 0) 0
              have x1 : (wo.alloc (.cells #[.string o, .string m] 74)).cell? ⟨wo.heap.size, 1, none⟩ = some (.string m) := World.cell?_alloc_mark wo _ 74 (0, 0) 1
              have X0 := hide x0
              have X1 := hide x1
              clear x0 x1 d0 d1
              go_wp2
              go_loopw [43] (fun i wi => ∃ j : Nat, j ≤ k ∧ i = .int .i64 j ∧ Hid ((L.take j).any (fun x => share x (o, m)) = false) ∧ Below (wo.alloc (.cells #[.string o, .string m] 74)).heap.size (wo.alloc (.cells #[.string o, .string m] 74)) wi) (fun i _ => k - (intOf i).toNat)
              case atStart => exact ⟨0, Nat.zero_le _, rfl, rfl, Below.refl _ _⟩
              case round =>
                obtain ⟨j, hj, rfl, Hs, hbi⟩ := hrel
                have hzi := hbi.size
                have hbw := hbn.trans (hbi.mono hzn)
                have y0 := (hbi.cell (p := ⟨wo.heap.size, 0, none⟩) (by simp)).trans X0.out
                have y1 := (hbi.cell (p := ⟨wo.heap.size, 1, none⟩) (by simp)).trans X1.out
                by_cases hlj : j < k
                · obtain ⟨ad', a, b, had, hab', hLj, e0, e1, hsa, hsb⟩ := (hW2.below (hbi.mono (Nat.le_trans hB (Nat.le_trans hz (by simp))))).at_ hlj
                  obtain rfl := Option.some.inj had
                  have hLj' : L[j]? = some (a, b) := by rw [← hLj, List.getElem?_take_of_lt hlj]
                  have HLj := hide hLj'
                  clear hLj hLj' had
                  have z0 := fun O : Obj => (World.cell?_alloc_lt wr O ⟨wo.heap.size, 0, none⟩ (World.block_lt_of_cell? wr _ y0)).trans y0
                  have z1 := fun O : Obj => (World.cell?_alloc_lt wr O ⟨wo.heap.size, 1, none⟩ (World.block_lt_of_cell? wr _ y1)).trans y1
                  cases t1 : (a.toList == o.toList)
                  · cases t2 : (b.toList == m.toList)
                    · have Hno := hide (share_no t1 t2)
                      go_wp2
                      go_roundw
                      case rel => exact ⟨j + 1, by omega, by go_num, any_take_next HLj.out Hs.out Hno.out, hbi.alloc hzi _⟩
                      case measure => simp [intOf]; omega
                    · have Hyes := hide (share_new (a := a) (o := o) t2)
                      go_wp2
                      go_ret
                      exact ⟨ret_i (ph1_stop Hp.out HL.out (code184 Hbad.out (any_take_hit HLj.out hlj Hyes.out)) (by omega) (by have := Hl.out; omega)).symm, hbw.alloc (Nat.le_trans hzn hzi) _⟩
                  · have Hyes := hide (share_old (b := b) (m := m) t1)
                    go_wp2
                    go_ret
                    exact ⟨ret_i (ph1_stop Hp.out HL.out (code184 Hbad.out (any_take_hit HLj.out hlj Hyes.out)) (by omega) (by have := Hl.out; omega)).symm, hbw.alloc (Nat.le_trans hzn hzi) _⟩
                · obtain rfl : j = k := by omega
                  go_wp2
                  go_roundw
                  case rel => exact ⟨j + 1, by omega, by go_num, (ph1_next Hp.out HL.out).trans (code0 Hbad.out Hs.out), hbw⟩
                  case measure => simp [intOf]; omega
            · have Heq := hide heq
              go_wp2_with fail
              with_reducible refine (HC1.out _).mono ?_
              rintro e w1 ⟨rfl, rfl⟩
              go_wp2_with fail
              with_reducible refine (HC2.out _).mono ?_
              rintro e w2 ⟨rfl, rfl⟩
              go_wp2
              go_ret
              exact ⟨ret_i (ph1_stop Hp.out HL.out (code183 (bad3 Heq.out)) (by omega) (by have := Hl.out; omega)).symm, hbn⟩
      · obtain rfl : k = n := by omega
        have hp0 : ph1 L L.length = 0 := by have := Hp.out; rw [Hl.out] at this; exact this
        have Hp0 := hide hp0
        clear hp0 hlt hk
        go_wp2
        go_loopw [63] (fun i wr => ∃ k2 : Nat, k2 ≤ k ∧ i = .int .i64 k2 ∧ Hid ((L.take k2).any (cyc L) = false) ∧ Below wo.heap.size wo wr) (fun i _ => k - (intOf i).toNat)
        case atStart => exact ⟨0, Nat.zero_le _, rfl, rfl, Below.refl _ _⟩
        case round =>
          obtain ⟨k2, hk2, rfl, Hc, hbx⟩ := hrel
          obtain ⟨wp, rfl⟩ : ∃ wp : World, wp = wr := ⟨_, rfl⟩
          have hbo := hb.trans (hbx.mono hz)
          have hzo := hbx.size
          by_cases hlt : k2 < k
          · obtain ⟨ad, o, m, rfl, hab, hL, d0, d1, hs0, hs1⟩ := (h.below (hbo.mono hB)).at_ hlt
            have HL := hide hL
            clear hL
            have hbn := hbo.alloc (Nat.le_trans hz hzo) (.cells #[.string o, .string m] 74)
            go_wp2
            go_loopw [9, 10, 11] (fun x mo nn wi => ∃ (cur : ByteArray) (ok : Bool) (j : Nat), x = .string cur ∧ mo = .bool ok ∧ nn = .int .i64 j ∧ Hid (Bwd L (o, m) j cur ok) ∧ j ≤ k + 1 ∧ Below w.heap.size w wi ∧ Below wo.heap.size wo wi) (fun _ _ nn _ => k + 1 - (intOf nn).toNat)
            case atStart => exact ⟨o, true, 0, rfl, rfl, rfl, bwd_start L (o, m), by omega, hbn, hbx.alloc hzo _⟩
            case round =>
              obtain ⟨cur, ok, j, rfl, rfl, rfl, Hf, hj, hbi, hbi2⟩ := hrel
              have hzi := hbi.size
              cases ok
              · have Hcy := hide (bwd_out Hf.out (by have := Hl.out; omega))
                go_wp2
                go_roundw
                case rel => exact ⟨k2 + 1, by omega, by go_num, any_cyc_next HL.out Hc.out Hcy.out, hbi2⟩
                case measure => simp [intOf]; omega
              · by_cases hjk : j ≤ k
                · have hcon := back_any (some ad) k c B L cur wr (h.below (hbi.mono hB)) (Nat.le_trans hB hzi)
                  have hcond : decide ((j : Int) ≤ (k : Int)) = true := by simp; omega
                  have Hn := hide (bwd_next Hf.out)
                  generalize (back L cur).getD ⟨#[]⟩ = v at hcon Hn
                  generalize (back L cur).isSome = ok2 at hcon Hn
                  have HCC := hide hcon
                  clear hcon
                  go_wp2_with (go_at_call 68; with_reducible refine HCC.out.mono ?_; rintro e w3 ⟨rfl, hB3⟩)
                  go_roundw
                  case rel => exact ⟨v, ok2, j + 1, rfl, rfl, by go_num, Hn.out, by omega, hbi.trans (hB3.mono hzi), hbi2.trans (hB3.mono hbi2.size)⟩
                  case measure => simp [intOf]; omega
                · obtain rfl : j = k + 1 := by omega
                  have hcy : cyc L (o, m) = true := bwd_hit (by have := Hl.out; rw [← this]; exact Hf.out)
                  have Hcy := hide hcy
                  have hcond : decide (((k + 1 : Nat) : Int) ≤ (k : Int)) = false := by simp; omega
                  clear hcy
                  go_wp2
                  go_ret
                  exact ⟨ret_i (errno_cyc (by have := Hl.out; omega) Hp0.out HL.out Hcy.out).symm, hbi⟩
          · go_wp2
            go_ret
            obtain rfl : k2 = k := by omega
            have e := Hc.out
            have hl := Hl.out
            rw [List.take_of_length_le (by omega)] at e
            exact ⟨ret_i (errno_ok (by omega) Hp0.out e).symm, hbo⟩
end Go.Proofs.YtjgbadopladmdaaDoor
