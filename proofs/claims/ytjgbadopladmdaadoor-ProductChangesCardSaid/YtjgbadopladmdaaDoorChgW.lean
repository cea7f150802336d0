/- ProductChanges: the walk of the law. (Printed by chg.py for both lengths.) -/
import Derived.Test.YtjgbadopladmdaaDoorDigW
import Derived.Test.YtjgbadopladmdaaDoorDigQ
import Derived.Test.YtjgbadopladmdaaDoorTapeW
import Derived.Deep.RegionWith
import Derived.BigRegion
import Derived.Deep.DeepCutAuto
namespace Go.Proofs.YtjgbadopladmdaaDoor
open Go.RowKit Go.Shelf

theorem info5 : (Tryd.prog.info? 5).map (fun i => (i.zero, i.size, i.bytes)) = some (some (.int .u8 0), 1, 1) := by kernel_rfl

theorem dig_next (l : List UInt8) (k : Nat) (d : Int) (hl : l.length = k) (hd : Dig.alld l = true) (h0 : 0 ≤ d) (h9 : d < 10) :
    (l ++ [UInt8.ofNat (48 + d).toNat]).length = k + 1 ∧ Dig.alld (l ++ [UInt8.ofNat (48 + d).toNat]) = true ∧ (l ++ [UInt8.ofNat (48 + d).toNat]).map bv = l.map bv ++ (#[Value.int .u8 (48 + d)] : Array Value).toList := by
  have e : (UInt8.ofNat (48 + d).toNat).toNat = (48 + d).toNat := by rw [UInt8.toNat_ofNat']; omega
  refine ⟨by simp [hl], ?_, ?_⟩
  · unfold Dig.alld at hd ⊢
    rw [List.all_append, hd]
    simp only [List.all_cons, List.all_nil, Bool.and_true, Bool.true_and]
    unfold Dig.dg
    rw [e, Bool.and_eq_true, decide_eq_true_eq, decide_eq_true_eq]
    omega
  · simp only [List.map_append, List.map_cons, List.map_nil, bv, e]
    congr 3
    omega

/-- what the store of the changed digit leaves -/
def Changed (w4 : World) (g5 c5 ip n : Nat) (id : List UInt8) (x : UInt8) (wx : World) : Prop :=
  ∃ y : UInt8, Dig.dg y = true ∧ y.toNat - 48 ≠ x.toNat - 48 ∧ wx.ownsRow w4.heap.size 5 1 (.slice (some ⟨g5, 0, none⟩) n c5) n ((id.set ip y).map bv) ∧ Below w4.heap.size w4 wx

theorem changed_mk {w4 w5 : World} {g5 c5 ip n f : Nat} {id : List UInt8} {x : UInt8} (hown : w5.ownsRow w4.heap.size 5 1 (.slice (some ⟨g5, 0, none⟩) n c5) n (id.map bv)) (hb : Below w4.heap.size w4 w5)
    (hg : w4.heap.size ≤ g5) (h1 : 48 ≤ x.toNat) (h2 : x.toNat ≤ 57) (hf : f < 9) :
    Changed w4 g5 c5 ip n id x (w5.setCell ⟨g5, ip, none⟩ (.int .u8 (IntKind.u8.wrap (IntKind.i64.wrap (48 + (IntKind.i64.wrap (IntKind.i64.wrap (IntKind.i64.wrap (IntKind.u8.wrap ((x.toNat : Int) - 48)) + 1) + (f : Int))).tmod 10))))).drew := by
  have e : IntKind.u8.wrap (IntKind.i64.wrap (48 + (IntKind.i64.wrap (IntKind.i64.wrap (IntKind.i64.wrap (IntKind.u8.wrap ((x.toNat : Int) - 48)) + 1) + (f : Int))).tmod 10)) = ((48 + (x.toNat - 48 + 1 + f) % 10 : Nat) : Int) := by
    rw [IntWalk.u8_in ((x.toNat : Int) - 48) (by omega), IntWalk.i64_in ((x.toNat : Int) - 48) (by omega), IntWalk.i64_in ((x.toNat : Int) - 48 + 1) (by omega), IntWalk.i64_in ((x.toNat : Int) - 48 + 1 + (f : Int)) (by omega), Int.tmod_eq_emod_of_nonneg (by omega),
      IntWalk.i64_in (48 + ((x.toNat : Int) - 48 + 1 + (f : Int)) % 10) (by omega), IntWalk.u8_in (48 + ((x.toNat : Int) - 48 + 1 + (f : Int)) % 10) (by omega)]
    omega
  have hy : (UInt8.ofNat (48 + (x.toNat - 48 + 1 + f) % 10)).toNat = 48 + (x.toNat - 48 + 1 + f) % 10 := by rw [UInt8.toNat_ofNat']; omega
  refine ⟨UInt8.ofNat (48 + (x.toNat - 48 + 1 + f) % 10), ?_, ?_, ?_, ?_⟩
  · unfold Dig.dg
    rw [hy, Bool.and_eq_true, decide_eq_true_eq, decide_eq_true_eq]
    omega
  · rw [hy]; omega
  · rw [e]
    have := (hown.stored ip (.int .u8 ((48 + (x.toNat - 48 + 1 + f) % 10 : Nat) : Int))).1
    rw [List.map_set]
    unfold bv at *
    rw [hy]
    exact this.drew
  · exact ((hb.setCell (p := ⟨g5, ip, none⟩) hg _)).drew

/-- what the exchange of two neighbours leaves -/
def Swapped (w6 : World) (g c jp n : Nat) (id : List UInt8) (a b : UInt8) (wx : World) : Prop :=
  wx.ownsRow w6.heap.size 5 1 (.slice (some ⟨g, 0, none⟩) n c) n (((id.set jp b).set (jp + 1) a).map bv) ∧ Below w6.heap.size w6 wx

theorem swapped_mk {w6 w8 : World} {g c jp n : Nat} {id : List UInt8} {a b : UInt8} (hown : w8.ownsRow w6.heap.size 5 1 (.slice (some ⟨g, 0, none⟩) n c) n (id.map bv)) (hb : Below w6.heap.size w6 w8) (hg : w6.heap.size ≤ g) :
    Swapped w6 g c jp n id a b ((w8.setCell ⟨g, jp, none⟩ (.int .u8 (b.toNat : Int))).setCell ⟨g, jp + 1, none⟩ (.int .u8 (a.toNat : Int))).drew := by
  have h1 := (hown.stored jp (.int .u8 (b.toNat : Int))).1
  have h2 := (h1.stored (jp + 1) (.int .u8 (a.toNat : Int))).1
  refine ⟨?_, ((hb.setCell (p := ⟨g, jp, none⟩) hg _).setCell (p := ⟨g, jp + 1, none⟩) hg _).drew⟩
  rw [List.map_set, List.map_set]
  exact h2.drew

theorem swap_cases (t : List UInt8) (i : Nat) (a b : UInt8) (h : t.length = 8 ∨ t.length = 13) (hi : i + 1 < t.length) (hv : Dig.vid t = true) (ha : t[i]? = some a) (hb : t[i + 1]? = some b) :
    (((a.toNat : Int) - (b.toNat : Int) == 0) = true ∧ Dig.vid ((t.set i b).set (i + 1) a) = true) ∨
    (((a.toNat : Int) - (b.toNat : Int) == 0) = false ∧ ((a.toNat : Int) - (b.toNat : Int) == 5) = true ∧ Dig.vid ((t.set i b).set (i + 1) a) = true) ∨
    (((a.toNat : Int) - (b.toNat : Int) == 0) = false ∧ ((a.toNat : Int) - (b.toNat : Int) == 5) = false ∧ ((a.toNat : Int) - (b.toNat : Int) == -5) = true ∧ Dig.vid ((t.set i b).set (i + 1) a) = true) ∨
    (((a.toNat : Int) - (b.toNat : Int) == 0) = false ∧ ((a.toNat : Int) - (b.toNat : Int) == 5) = false ∧ ((a.toNat : Int) - (b.toNat : Int) == -5) = false ∧ Dig.vid ((t.set i b).set (i + 1) a) = false) := by
  rw [Dig.vid_swap t i a b h hi hv ha hb]
  cases ((a.toNat : Int) - (b.toNat : Int) == 0) <;> cases ((a.toNat : Int) - (b.toNat : Int) == 5) <;> cases ((a.toNat : Int) - (b.toNat : Int) == -5) <;> simp

set_option maxHeartbeats 4000000 in
set_option maxRecDepth 100000 in
theorem changes_false (n : Int) (at_ by_ : Int) (w : World) :
    Calls Tryd.prog 4 #[.int .i64 n, .bool false, .int .i64 at_, .int .i64 by_] w fun e w' => e = .returned (.bool true) ∧ Below w.heap.size w w' := by
  obtain ⟨i0, hi, hz0, hz1, hz2⟩ := info_parts info5
  go_enter Tryd.func4, Tryd.ntmps4
  go_wp2
  go_loopw [9, 0, 21] (fun b m i wr => ∃ (k : Nat) (l : List UInt8) (z : Int), k ≤ 7 ∧ i = .int .i64 k ∧ m = .int .i64 z ∧ Hid (l.length = k) ∧ Hid (Dig.alld l = true) ∧ wr.ownsRow w.heap.size 5 1 b k (l.map bv) ∧ Below w.heap.size w wr) (fun _ _ i _ => 7 - (intOf i).toNat)
  case atStart => exact ⟨0, [], n, by omega, rfl, rfl, rfl, rfl, World.ownsRow_lit w #[] 0 (Nat.le_refl _) (by decide) rfl, (Below.refl _ _).alloc (Nat.le_refl _) _⟩
  case round =>
    obtain ⟨k, l, z, hk, rfl, rfl, Hl, Hd, hown, hb⟩ := hrel
    obtain ⟨d0, d9⟩ := fld_bd z 10 (by omega)
    have hsz := hb.size
    by_cases hlt : k < 7
    · go_wp2_with (first
        | (go_at_call 19; refine (fold_any z 10 _ (by omega) (by omega)).mono ?_; rintro e w' ⟨rfl, rfl⟩)
        | (at_builtin; refine wpList_append_elem wr rfl _ _ 26 rfl w.heap.size 5 i0 _ 1 1 Tryd.underlying26 hi hz0 hz1 hz2 rfl (by omega) (by omega) _ k _ rfl hown #[.int .u8 (48 + fld z 10)] rfl rfl rfl (by simp [Value.oneCell']) (by omega) hsz ?_; intro v' w1 hown1 hg1 _))
      have hb1 := below_own hb hown hg1 (Nat.le_refl _) hsz
      have hq := dig_next l k (fld z 10) Hl.out Hd.out d0 d9
      rw [← hq.2.2] at hown1
      clear hown hb hg1
      go_roundw
      case rel => exact ⟨k + 1, _, _, by omega, by go_num, rfl, hq.1, hq.2.1, hown1, hb1⟩
      case measure => simp [intOf]; omega
    · have hkk : k = 7 := by omega
      subst hkk
      clear hlt hk d0 d9
      obtain ⟨A, c, rfl, _, _⟩ := own_form hown
      have hs1 := run_str_own hown Tryd.underlying26 Tryd.underlying5 Tryd.underlying9
      have hsize : (⟨l.toArray⟩ : ByteArray).size = 7 := by simpa [ByteArray.size] using Hl.out
      have hc := check_yes ⟨l.toArray⟩ wr (by omega) Hd.out
      clear hsize
      generalize hcd : Dig.cdv (⟨l.toArray⟩ : ByteArray).data.toList = d at hc
      have hd9 : d ≤ 9 := by rw [← hcd]; exact Dig.cdv_le _
      have Hcd : Hid (Dig.cdv l = d) := hcd
      have HC := hide hc
      clear hcd hc
      have hr := Reads.of_own hown
      have Hid0 : Hid ((l ++ [UInt8.ofNat (48 + (d : Int)).toNat]).length = 7 + 1 ∧ Dig.alld (l ++ [UInt8.ofNat (48 + (d : Int)).toNat]) = true ∧ (l ++ [UInt8.ofNat (48 + (d : Int)).toNat]).map bv = l.map bv ++ (#[Value.int .u8 (48 + (d : Int))] : Array Value).toList) := dig_next l 7 d Hl.out Hd.out (by omega) (by omega)
      have Hv : Hid (Dig.vid (l ++ [UInt8.ofNat (48 + (d : Int)).toNat]) = true) := Dig.vid_made l (by have := Hl.out; omega) Hd.out _ (by rw [Hcd.out, UInt8.toNat_ofNat']; omega)
      generalize hidn : l ++ [UInt8.ofNat (48 + (d : Int)).toNat] = id at Hid0 Hv
      clear hidn
      go_wp2_with (first
        | (go_at_call 14; refine HC.out.mono ?_; rintro e w1 ⟨rfl, hB1⟩)
        | (at_builtin; refine wpList_append_copy w1 rfl (.tmp 50) (.tmp 51) 26 rfl 5 i0 _ 1 1 Tryd.underlying26 hi hz0 hz1 hz2 rfl (by omega) (by omega) rfl rfl A 7 c _ rfl ((hr.below hB1).more hB1.size) (bv_one _) (by omega) ?_; intro v2 w2 hown2 hb2)
        | (at_builtin; refine wpList_append_elem w2 rfl (.tmp 52) (.tmp 56) 26 rfl w1.heap.size 5 i0 _ 1 1 Tryd.underlying26 hi hz0 hz1 hz2 rfl (by omega) (by omega) _ 7 _ rfl hown2 #[.int .u8 (48 + (d : Int))] rfl rfl rfl (by simp [Value.oneCell']) (by omega) hb2.size ?_
           intro v3 w3 hown3 hg3 _
           have hb3 := below_own hb2 hown2 hg3 (Nat.le_refl _) hb2.size
           rw [← Hid0.out.2.2] at hown3
           simp only [Nat.reduceAdd] at hown3
           clear hg3 hown2 hb2
           obtain ⟨g3, c3, rfl, hg3b, hg3l⟩ := hown3.form (by omega)
           have hs3 := run_str_own hown3 Tryd.underlying26 Tryd.underlying5 Tryd.underlying9
           have hv3 := valid_any ⟨id.toArray⟩ w3 (by have := Hid0.out.1; simp [ByteArray.size]; omega)
           rw [show (⟨id.toArray⟩ : ByteArray).data.toList = id from rfl, Hv.out] at hv3
           have HV3 := hide hv3
           clear hv3)
        | (go_at_call 16; refine HV3.out.mono ?_; rintro e w4 ⟨rfl, hB4⟩))
      have hb4 : Below w.heap.size w w4 := ((hb.trans (hB1.mono hsz)).trans (hb3.mono (Nat.le_trans hsz hB1.size))).trans (hB4.mono (Nat.le_trans hsz (Nat.le_trans hB1.size hb3.size)))
      have hown4 := own_below hown3 hB4 (fun g hg => by simp [Value.ownBlock] at hg; omega)
      have hz4 := hB4.size
      have hr4 := Reads.of_own hown4
      have hlen := Hid0.out.1
      have hall := Hid0.out.2.1
      have hlt4 : g3 < w4.heap.size := by omega
      have Hall := hide hall
      have Hlen := hide hlen
      clear hown3 hb3 HV3 hs3 HC hs1 hr hown hb Hl Hd Hcd hd9 hlen hall hsz
      -- the place
      obtain ⟨i0p, i0l⟩ := fld_bd at_ (7 + 1) (by omega)
      have hf1 := fold_any at_ (7 + 1) w4 (by omega) (by omega)
      simp only [Int.reduceAdd] at hf1 i0p i0l
      obtain ⟨ip, hip⟩ := Int.eq_ofNat_of_zero_le i0p
      rw [hip] at hf1 i0l
      clear i0p hip
      have hipl : ip < 7 + 1 := by omega
      clear i0l
      obtain ⟨x, hx⟩ : ∃ x, id[ip]? = some x := ⟨_, List.getElem?_eq_getElem (by have := Hlen.out; omega)⟩
      have hxd : 48 ≤ x.toNat ∧ x.toNat ≤ 57 := by
        have := (List.all_eq_true.1 Hall.out) x (List.mem_of_getElem? hx)
        unfold Dig.dg at this
        rw [Bool.and_eq_true, decide_eq_true_eq, decide_eq_true_eq] at this
        exact this
      have Hx := hide hx
      clear hx
      obtain ⟨f0, f9⟩ := fld_bd by_ 9 (by omega)
      have hf2 : ∀ W, Calls Tryd.prog 19 #[.int .i64 by_, .int .i64 9] W fun e w' => e = .returned (.int .i64 (fld by_ 9)) ∧ W = w' := fun W => fold_any by_ 9 W (by omega) (by omega)
      obtain ⟨f, hf⟩ := Int.eq_ofNat_of_zero_le f0
      rw [hf] at hf2 f9
      clear f0 hf
      have HF2 := hide hf2
      clear hf2
      obtain ⟨hx48, hx57⟩ := hxd
      go_wp2_with (first
        | (go_at_call 19; refine hf1.mono ?_; rintro e w5 ⟨rfl, rfl⟩)
        | (at_builtin; refine wpList_append_copy w4 rfl (.tmp 66) (.tmp 67) 26 rfl 5 i0 _ 1 1 Tryd.underlying26 hi hz0 hz1 hz2 rfl (by omega) (by omega) rfl rfl (some ⟨g3, 0, none⟩) (7 + 1) c3 _ rfl hr4 (bv_one _) (by omega) ?_
           intro v5 w5 hown5 hb5
           obtain ⟨g5, c5, rfl, hg5b, hg5l⟩ := hown5.form (by omega)
           have hz5 := hb5.size
           have cid : w5.cell? ⟨g3, ip, none⟩ = some (.int .u8 (x.toNat : Int)) := by
             rw [hb5.cell (p := ⟨g3, ip, none⟩) hlt4, hown4.cellAt ip (by omega), List.getElem?_map, Hx.out]; rfl
           have cot : w5.cell? ⟨g5, ip, none⟩ = some (.int .u8 (x.toNat : Int)) := by
             rw [hown5.cellAt ip (by omega), List.getElem?_map, Hx.out]; rfl
           have fot : w5.frozen? ⟨g5, ip, none⟩ = false := hown5.frozenAt ip))
      clear hf1 hz4 hg3l
      go_upto_region 18 with (fail)
      go_cut [] (fun wx => Changed w4 g5 c5 ip (7 + 1) id x wx)
      case first =>
        go_region_with (go_at_call 19; refine (HF2.out _).mono ?_; rintro e w' ⟨rfl, rfl⟩)
        all_goals (go_wp2_with fail; go_meet; exact changed_mk hown5 hb5 hg5b hx48 hx57 (by omega))
      case rest =>
        obtain ⟨y, hyd, hyne, hownC, hbC⟩ := hcut
        clear cid cot fot hown5 hb5 HF2 f9 hx48 hx57
        have hsC := run_str_own hownC Tryd.underlying26 Tryd.underlying5 Tryd.underlying9
        have hvC := valid_any ⟨(id.set ip y).toArray⟩ wc (by have := Hlen.out; simp [ByteArray.size]; omega)
        have hdv : Dig.dv id ip = x.toNat - 48 := by unfold Dig.dv; rw [Hx.out]; rfl
        rw [show (⟨(id.set ip y).toArray⟩ : ByteArray).data.toList = id.set ip y from rfl, Dig.vid_change id ip y (by have := Hlen.out; omega) (by have := Hlen.out; omega) Hv.out hyd (by rw [hdv]; exact hyne)] at hvC
        have HVC := hide hvC
        clear hvC hdv hyd hyne Hx
        -- the second place
        obtain ⟨j0p, j0l⟩ := fld_bd at_ 7 (by omega)
        have hf3 : ∀ W, Calls Tryd.prog 19 #[.int .i64 at_, .int .i64 7] W fun e w' => e = .returned (.int .i64 (fld at_ 7)) ∧ W = w' := fun W => fold_any at_ 7 W (by omega) (by omega)
        obtain ⟨jp, hjp⟩ := Int.eq_ofNat_of_zero_le j0p
        rw [hjp] at hf3 j0l
        clear j0p hjp
        have HF3 := hide hf3
        clear hf3
        have hjpl : jp < 7 := by omega
        clear j0l
        obtain ⟨a, ha⟩ : ∃ a, id[jp]? = some a := ⟨_, List.getElem?_eq_getElem (by have := Hlen.out; omega)⟩
        obtain ⟨b, hb⟩ : ∃ b, id[jp + 1]? = some b := ⟨_, List.getElem?_eq_getElem (by have := Hlen.out; omega)⟩
        have Ha := hide ha
        have Hb := hide hb
        clear ha hb
        have hba := a.toNat_lt
        have hbb := b.toNat_lt
        go_wp2_with (first
          | (go_at_call 16
             refine HVC.out.mono ?_
             rintro e w6 ⟨rfl, hB6⟩
             have hb6 : Below w4.heap.size w4 w6 := hbC.trans (hB6.mono hbC.size)
             have hown6 := own_below hown4 hb6 (fun g hg => by simp [Value.ownBlock] at hg; omega)
             have hz6 := hb6.size
             have hr6 := Reads.of_own hown6)
          | (go_at_call 19; refine (HF3.out _).mono ?_; rintro e w7 ⟨rfl, rfl⟩)
          | (at_builtin; refine wpList_append_copy w6 rfl (.tmp 93) (.tmp 94) 26 rfl 5 i0 _ 1 1 Tryd.underlying26 hi hz0 hz1 hz2 rfl (by omega) (by omega) rfl rfl (some ⟨g3, 0, none⟩) (7 + 1) c3 _ rfl hr6 (bv_one _) (by omega) ?_
             intro v8 w8 hown8 hb8
             obtain ⟨g8, c8, rfl, hg8b, hg8l⟩ := hown8.form (by omega)
             have hz8 := hb8.size
             have ca : w8.cell? ⟨g3, jp, none⟩ = some (.int .u8 (a.toNat : Int)) := by
               rw [hb8.cell (p := ⟨g3, jp, none⟩) (Nat.lt_of_lt_of_le hlt4 hz6), hown6.cellAt jp (by omega), List.getElem?_map, Ha.out]; rfl
             have cb : w8.cell? ⟨g3, jp + 1, none⟩ = some (.int .u8 (b.toNat : Int)) := by
               rw [hb8.cell (p := ⟨g3, jp + 1, none⟩) (Nat.lt_of_lt_of_le hlt4 hz6), hown6.cellAt (jp + 1) (by omega), List.getElem?_map, Hb.out]; rfl
             have da : w8.cell? ⟨g8, jp, none⟩ = some (.int .u8 (a.toNat : Int)) := by
               rw [hown8.cellAt jp (by omega), List.getElem?_map, Ha.out]; rfl
             have db : w8.cell? ⟨g8, jp + 1, none⟩ = some (.int .u8 (b.toNat : Int)) := by
               rw [hown8.cellAt (jp + 1) (by omega), List.getElem?_map, Hb.out]; rfl
             have fa : w8.frozen? ⟨g8, jp, none⟩ = false := hown8.frozenAt jp
             have fb : w8.frozen? ⟨g8, jp + 1, none⟩ = false := hown8.frozenAt (jp + 1)))
        go_upto_region 23 with (fail)
        go_cut [] (fun wx => Swapped w6 g8 c8 jp (7 + 1) id a b wx)
        case first =>
          go_region
          all_goals (go_wp2_with fail; go_meet; exact swapped_mk hown8 hb8 hg8b)
        case rest =>
          obtain ⟨hown9, hb9⟩ := hcut
          clear ca cb da db fa fb hown8 hb8 HF3 HVC hsC hownC hbC
          have ca : wc.cell? ⟨g3, jp, none⟩ = some (.int .u8 (a.toNat : Int)) := by
            rw [hb9.cell (p := ⟨g3, jp, none⟩) (Nat.lt_of_lt_of_le hlt4 hz6), hown6.cellAt jp (by omega), List.getElem?_map, Ha.out]; rfl
          have cb : wc.cell? ⟨g3, jp + 1, none⟩ = some (.int .u8 (b.toNat : Int)) := by
            rw [hb9.cell (p := ⟨g3, jp + 1, none⟩) (Nat.lt_of_lt_of_le hlt4 hz6), hown6.cellAt (jp + 1) (by omega), List.getElem?_map, Hb.out]; rfl
          have hs9 := fun q => run_str_own (w := wc.drewN q) hown9 Tryd.underlying26 Tryd.underlying5 Tryd.underlying9
          have hv9 := fun q => valid_any ⟨((id.set jp b).set (jp + 1) a).toArray⟩ (wc.drewN q) (by have := Hlen.out; simp [ByteArray.size]; omega)
          rw [show (⟨((id.set jp b).set (jp + 1) a).toArray⟩ : ByteArray).data.toList = (id.set jp b).set (jp + 1) a from rfl] at hv9
          have hbe : Below w.heap.size w wc := hb4.trans ((hb6.trans (hb9.mono hz6)).mono hb4.size)
          have hcase := swap_cases id jp a b (by have := Hlen.out; omega) (by have := Hlen.out; omega) Hv.out Ha.out Hb.out
          rcases hcase with ⟨e0, hv⟩ | ⟨e0, e5, hv⟩ | ⟨e0, e5, e6, hv⟩ | ⟨e0, e5, e6, hv⟩
          all_goals
            rw [hv] at hv9
            have HV9 := hide hv9
            clear hv9 hv
            go_wp2_with fail
            go_quiet (fail)
            go_wp2_with (first
              | (go_at_call 16; refine (HV9.out _).mono ?_; rintro e w10 ⟨rfl, hB10⟩)
              | (go_at_call 18; refine (awake_any _).mono ?_; rintro e w11 ⟨rfl, hB11⟩))
            go_ret
            exact ⟨rfl, ((below_drewN hbe nq).trans (hB10.mono hbe.size)).trans (hB11.mono (Nat.le_trans hbe.size hB10.size))⟩

set_option maxHeartbeats 4000000 in
set_option maxRecDepth 100000 in
theorem changes_true (n : Int) (at_ by_ : Int) (w : World) :
    Calls Tryd.prog 4 #[.int .i64 n, .bool true, .int .i64 at_, .int .i64 by_] w fun e w' => e = .returned (.bool true) ∧ Below w.heap.size w w' := by
  obtain ⟨i0, hi, hz0, hz1, hz2⟩ := info_parts info5
  go_enter Tryd.func4, Tryd.ntmps4
  go_wp2
  go_loopw [9, 0, 21] (fun b m i wr => ∃ (k : Nat) (l : List UInt8) (z : Int), k ≤ 12 ∧ i = .int .i64 k ∧ m = .int .i64 z ∧ Hid (l.length = k) ∧ Hid (Dig.alld l = true) ∧ wr.ownsRow w.heap.size 5 1 b k (l.map bv) ∧ Below w.heap.size w wr) (fun _ _ i _ => 12 - (intOf i).toNat)
  case atStart => exact ⟨0, [], n, by omega, rfl, rfl, rfl, rfl, World.ownsRow_lit w #[] 0 (Nat.le_refl _) (by decide) rfl, (Below.refl _ _).alloc (Nat.le_refl _) _⟩
  case round =>
    obtain ⟨k, l, z, hk, rfl, rfl, Hl, Hd, hown, hb⟩ := hrel
    obtain ⟨d0, d9⟩ := fld_bd z 10 (by omega)
    have hsz := hb.size
    by_cases hlt : k < 12
    · go_wp2_with (first
        | (go_at_call 19; refine (fold_any z 10 _ (by omega) (by omega)).mono ?_; rintro e w' ⟨rfl, rfl⟩)
        | (at_builtin; refine wpList_append_elem wr rfl _ _ 26 rfl w.heap.size 5 i0 _ 1 1 Tryd.underlying26 hi hz0 hz1 hz2 rfl (by omega) (by omega) _ k _ rfl hown #[.int .u8 (48 + fld z 10)] rfl rfl rfl (by simp [Value.oneCell']) (by omega) hsz ?_; intro v' w1 hown1 hg1 _))
      have hb1 := below_own hb hown hg1 (Nat.le_refl _) hsz
      have hq := dig_next l k (fld z 10) Hl.out Hd.out d0 d9
      rw [← hq.2.2] at hown1
      clear hown hb hg1
      go_roundw
      case rel => exact ⟨k + 1, _, _, by omega, by go_num, rfl, hq.1, hq.2.1, hown1, hb1⟩
      case measure => simp [intOf]; omega
    · have hkk : k = 12 := by omega
      subst hkk
      clear hlt hk d0 d9
      obtain ⟨A, c, rfl, _, _⟩ := own_form hown
      have hs1 := run_str_own hown Tryd.underlying26 Tryd.underlying5 Tryd.underlying9
      have hsize : (⟨l.toArray⟩ : ByteArray).size = 12 := by simpa [ByteArray.size] using Hl.out
      have hc := check_yes ⟨l.toArray⟩ wr (by omega) Hd.out
      clear hsize
      generalize hcd : Dig.cdv (⟨l.toArray⟩ : ByteArray).data.toList = d at hc
      have hd9 : d ≤ 9 := by rw [← hcd]; exact Dig.cdv_le _
      have Hcd : Hid (Dig.cdv l = d) := hcd
      have HC := hide hc
      clear hcd hc
      have hr := Reads.of_own hown
      have Hid0 : Hid ((l ++ [UInt8.ofNat (48 + (d : Int)).toNat]).length = 12 + 1 ∧ Dig.alld (l ++ [UInt8.ofNat (48 + (d : Int)).toNat]) = true ∧ (l ++ [UInt8.ofNat (48 + (d : Int)).toNat]).map bv = l.map bv ++ (#[Value.int .u8 (48 + (d : Int))] : Array Value).toList) := dig_next l 12 d Hl.out Hd.out (by omega) (by omega)
      have Hv : Hid (Dig.vid (l ++ [UInt8.ofNat (48 + (d : Int)).toNat]) = true) := Dig.vid_made l (by have := Hl.out; omega) Hd.out _ (by rw [Hcd.out, UInt8.toNat_ofNat']; omega)
      generalize hidn : l ++ [UInt8.ofNat (48 + (d : Int)).toNat] = id at Hid0 Hv
      clear hidn
      go_wp2_with (first
        | (go_at_call 14; refine HC.out.mono ?_; rintro e w1 ⟨rfl, hB1⟩)
        | (at_builtin; refine wpList_append_copy w1 rfl (.tmp 50) (.tmp 51) 26 rfl 5 i0 _ 1 1 Tryd.underlying26 hi hz0 hz1 hz2 rfl (by omega) (by omega) rfl rfl A 12 c _ rfl ((hr.below hB1).more hB1.size) (bv_one _) (by omega) ?_; intro v2 w2 hown2 hb2)
        | (at_builtin; refine wpList_append_elem w2 rfl (.tmp 52) (.tmp 56) 26 rfl w1.heap.size 5 i0 _ 1 1 Tryd.underlying26 hi hz0 hz1 hz2 rfl (by omega) (by omega) _ 12 _ rfl hown2 #[.int .u8 (48 + (d : Int))] rfl rfl rfl (by simp [Value.oneCell']) (by omega) hb2.size ?_
           intro v3 w3 hown3 hg3 _
           have hb3 := below_own hb2 hown2 hg3 (Nat.le_refl _) hb2.size
           rw [← Hid0.out.2.2] at hown3
           simp only [Nat.reduceAdd] at hown3
           clear hg3 hown2 hb2
           obtain ⟨g3, c3, rfl, hg3b, hg3l⟩ := hown3.form (by omega)
           have hs3 := run_str_own hown3 Tryd.underlying26 Tryd.underlying5 Tryd.underlying9
           have hv3 := valid_any ⟨id.toArray⟩ w3 (by have := Hid0.out.1; simp [ByteArray.size]; omega)
           rw [show (⟨id.toArray⟩ : ByteArray).data.toList = id from rfl, Hv.out] at hv3
           have HV3 := hide hv3
           clear hv3)
        | (go_at_call 16; refine HV3.out.mono ?_; rintro e w4 ⟨rfl, hB4⟩))
      have hb4 : Below w.heap.size w w4 := ((hb.trans (hB1.mono hsz)).trans (hb3.mono (Nat.le_trans hsz hB1.size))).trans (hB4.mono (Nat.le_trans hsz (Nat.le_trans hB1.size hb3.size)))
      have hown4 := own_below hown3 hB4 (fun g hg => by simp [Value.ownBlock] at hg; omega)
      have hz4 := hB4.size
      have hr4 := Reads.of_own hown4
      have hlen := Hid0.out.1
      have hall := Hid0.out.2.1
      have hlt4 : g3 < w4.heap.size := by omega
      have Hall := hide hall
      have Hlen := hide hlen
      clear hown3 hb3 HV3 hs3 HC hs1 hr hown hb Hl Hd Hcd hd9 hlen hall hsz
      -- the place
      obtain ⟨i0p, i0l⟩ := fld_bd at_ (12 + 1) (by omega)
      have hf1 := fold_any at_ (12 + 1) w4 (by omega) (by omega)
      simp only [Int.reduceAdd] at hf1 i0p i0l
      obtain ⟨ip, hip⟩ := Int.eq_ofNat_of_zero_le i0p
      rw [hip] at hf1 i0l
      clear i0p hip
      have hipl : ip < 12 + 1 := by omega
      clear i0l
      obtain ⟨x, hx⟩ : ∃ x, id[ip]? = some x := ⟨_, List.getElem?_eq_getElem (by have := Hlen.out; omega)⟩
      have hxd : 48 ≤ x.toNat ∧ x.toNat ≤ 57 := by
        have := (List.all_eq_true.1 Hall.out) x (List.mem_of_getElem? hx)
        unfold Dig.dg at this
        rw [Bool.and_eq_true, decide_eq_true_eq, decide_eq_true_eq] at this
        exact this
      have Hx := hide hx
      clear hx
      obtain ⟨f0, f9⟩ := fld_bd by_ 9 (by omega)
      have hf2 : ∀ W, Calls Tryd.prog 19 #[.int .i64 by_, .int .i64 9] W fun e w' => e = .returned (.int .i64 (fld by_ 9)) ∧ W = w' := fun W => fold_any by_ 9 W (by omega) (by omega)
      obtain ⟨f, hf⟩ := Int.eq_ofNat_of_zero_le f0
      rw [hf] at hf2 f9
      clear f0 hf
      have HF2 := hide hf2
      clear hf2
      obtain ⟨hx48, hx57⟩ := hxd
      go_wp2_with (first
        | (go_at_call 19; refine hf1.mono ?_; rintro e w5 ⟨rfl, rfl⟩)
        | (at_builtin; refine wpList_append_copy w4 rfl (.tmp 66) (.tmp 67) 26 rfl 5 i0 _ 1 1 Tryd.underlying26 hi hz0 hz1 hz2 rfl (by omega) (by omega) rfl rfl (some ⟨g3, 0, none⟩) (12 + 1) c3 _ rfl hr4 (bv_one _) (by omega) ?_
           intro v5 w5 hown5 hb5
           obtain ⟨g5, c5, rfl, hg5b, hg5l⟩ := hown5.form (by omega)
           have hz5 := hb5.size
           have cid : w5.cell? ⟨g3, ip, none⟩ = some (.int .u8 (x.toNat : Int)) := by
             rw [hb5.cell (p := ⟨g3, ip, none⟩) hlt4, hown4.cellAt ip (by omega), List.getElem?_map, Hx.out]; rfl
           have cot : w5.cell? ⟨g5, ip, none⟩ = some (.int .u8 (x.toNat : Int)) := by
             rw [hown5.cellAt ip (by omega), List.getElem?_map, Hx.out]; rfl
           have fot : w5.frozen? ⟨g5, ip, none⟩ = false := hown5.frozenAt ip))
      clear hf1 hz4 hg3l
      go_upto_region 18 with (fail)
      go_cut [] (fun wx => Changed w4 g5 c5 ip (12 + 1) id x wx)
      case first =>
        go_region_with (go_at_call 19; refine (HF2.out _).mono ?_; rintro e w' ⟨rfl, rfl⟩)
        all_goals (go_wp2_with fail; go_meet; exact changed_mk hown5 hb5 hg5b hx48 hx57 (by omega))
      case rest =>
        obtain ⟨y, hyd, hyne, hownC, hbC⟩ := hcut
        clear cid cot fot hown5 hb5 HF2 f9 hx48 hx57
        have hsC := run_str_own hownC Tryd.underlying26 Tryd.underlying5 Tryd.underlying9
        have hvC := valid_any ⟨(id.set ip y).toArray⟩ wc (by have := Hlen.out; simp [ByteArray.size]; omega)
        have hdv : Dig.dv id ip = x.toNat - 48 := by unfold Dig.dv; rw [Hx.out]; rfl
        rw [show (⟨(id.set ip y).toArray⟩ : ByteArray).data.toList = id.set ip y from rfl, Dig.vid_change id ip y (by have := Hlen.out; omega) (by have := Hlen.out; omega) Hv.out hyd (by rw [hdv]; exact hyne)] at hvC
        have HVC := hide hvC
        clear hvC hdv hyd hyne Hx
        -- the second place
        obtain ⟨j0p, j0l⟩ := fld_bd at_ 12 (by omega)
        have hf3 : ∀ W, Calls Tryd.prog 19 #[.int .i64 at_, .int .i64 12] W fun e w' => e = .returned (.int .i64 (fld at_ 12)) ∧ W = w' := fun W => fold_any at_ 12 W (by omega) (by omega)
        obtain ⟨jp, hjp⟩ := Int.eq_ofNat_of_zero_le j0p
        rw [hjp] at hf3 j0l
        clear j0p hjp
        have HF3 := hide hf3
        clear hf3
        have hjpl : jp < 12 := by omega
        clear j0l
        obtain ⟨a, ha⟩ : ∃ a, id[jp]? = some a := ⟨_, List.getElem?_eq_getElem (by have := Hlen.out; omega)⟩
        obtain ⟨b, hb⟩ : ∃ b, id[jp + 1]? = some b := ⟨_, List.getElem?_eq_getElem (by have := Hlen.out; omega)⟩
        have Ha := hide ha
        have Hb := hide hb
        clear ha hb
        have hba := a.toNat_lt
        have hbb := b.toNat_lt
        go_wp2_with (first
          | (go_at_call 16
             refine HVC.out.mono ?_
             rintro e w6 ⟨rfl, hB6⟩
             have hb6 : Below w4.heap.size w4 w6 := hbC.trans (hB6.mono hbC.size)
             have hown6 := own_below hown4 hb6 (fun g hg => by simp [Value.ownBlock] at hg; omega)
             have hz6 := hb6.size
             have hr6 := Reads.of_own hown6)
          | (go_at_call 19; refine (HF3.out _).mono ?_; rintro e w7 ⟨rfl, rfl⟩)
          | (at_builtin; refine wpList_append_copy w6 rfl (.tmp 93) (.tmp 94) 26 rfl 5 i0 _ 1 1 Tryd.underlying26 hi hz0 hz1 hz2 rfl (by omega) (by omega) rfl rfl (some ⟨g3, 0, none⟩) (12 + 1) c3 _ rfl hr6 (bv_one _) (by omega) ?_
             intro v8 w8 hown8 hb8
             obtain ⟨g8, c8, rfl, hg8b, hg8l⟩ := hown8.form (by omega)
             have hz8 := hb8.size
             have ca : w8.cell? ⟨g3, jp, none⟩ = some (.int .u8 (a.toNat : Int)) := by
               rw [hb8.cell (p := ⟨g3, jp, none⟩) (Nat.lt_of_lt_of_le hlt4 hz6), hown6.cellAt jp (by omega), List.getElem?_map, Ha.out]; rfl
             have cb : w8.cell? ⟨g3, jp + 1, none⟩ = some (.int .u8 (b.toNat : Int)) := by
               rw [hb8.cell (p := ⟨g3, jp + 1, none⟩) (Nat.lt_of_lt_of_le hlt4 hz6), hown6.cellAt (jp + 1) (by omega), List.getElem?_map, Hb.out]; rfl
             have da : w8.cell? ⟨g8, jp, none⟩ = some (.int .u8 (a.toNat : Int)) := by
               rw [hown8.cellAt jp (by omega), List.getElem?_map, Ha.out]; rfl
             have db : w8.cell? ⟨g8, jp + 1, none⟩ = some (.int .u8 (b.toNat : Int)) := by
               rw [hown8.cellAt (jp + 1) (by omega), List.getElem?_map, Hb.out]; rfl
             have fa : w8.frozen? ⟨g8, jp, none⟩ = false := hown8.frozenAt jp
             have fb : w8.frozen? ⟨g8, jp + 1, none⟩ = false := hown8.frozenAt (jp + 1)))
        go_upto_region 23 with (fail)
        go_cut [] (fun wx => Swapped w6 g8 c8 jp (12 + 1) id a b wx)
        case first =>
          go_region
          all_goals (go_wp2_with fail; go_meet; exact swapped_mk hown8 hb8 hg8b)
        case rest =>
          obtain ⟨hown9, hb9⟩ := hcut
          clear ca cb da db fa fb hown8 hb8 HF3 HVC hsC hownC hbC
          have ca : wc.cell? ⟨g3, jp, none⟩ = some (.int .u8 (a.toNat : Int)) := by
            rw [hb9.cell (p := ⟨g3, jp, none⟩) (Nat.lt_of_lt_of_le hlt4 hz6), hown6.cellAt jp (by omega), List.getElem?_map, Ha.out]; rfl
          have cb : wc.cell? ⟨g3, jp + 1, none⟩ = some (.int .u8 (b.toNat : Int)) := by
            rw [hb9.cell (p := ⟨g3, jp + 1, none⟩) (Nat.lt_of_lt_of_le hlt4 hz6), hown6.cellAt (jp + 1) (by omega), List.getElem?_map, Hb.out]; rfl
          have hs9 := fun q => run_str_own (w := wc.drewN q) hown9 Tryd.underlying26 Tryd.underlying5 Tryd.underlying9
          have hv9 := fun q => valid_any ⟨((id.set jp b).set (jp + 1) a).toArray⟩ (wc.drewN q) (by have := Hlen.out; simp [ByteArray.size]; omega)
          rw [show (⟨((id.set jp b).set (jp + 1) a).toArray⟩ : ByteArray).data.toList = (id.set jp b).set (jp + 1) a from rfl] at hv9
          have hbe : Below w.heap.size w wc := hb4.trans ((hb6.trans (hb9.mono hz6)).mono hb4.size)
          have hcase := swap_cases id jp a b (by have := Hlen.out; omega) (by have := Hlen.out; omega) Hv.out Ha.out Hb.out
          rcases hcase with ⟨e0, hv⟩ | ⟨e0, e5, hv⟩ | ⟨e0, e5, e6, hv⟩ | ⟨e0, e5, e6, hv⟩
          all_goals
            rw [hv] at hv9
            have HV9 := hide hv9
            clear hv9 hv
            go_wp2_with fail
            go_quiet (fail)
            go_wp2_with (first
              | (go_at_call 16; refine (HV9.out _).mono ?_; rintro e w10 ⟨rfl, hB10⟩)
              | (go_at_call 18; refine (awake_any _).mono ?_; rintro e w11 ⟨rfl, hB11⟩))
            go_ret
            exact ⟨rfl, ((below_drewN hbe nq).trans (hB10.mono hbe.size)).trans (hB11.mono (Nat.le_trans hbe.size hB10.size))⟩

theorem changes_law (n : Int) (long : Bool) (at_ by_ : Int) (w : World) :
    Calls Tryd.prog 4 #[.int .i64 n, .bool long, .int .i64 at_, .int .i64 by_] w fun e w' => e = .returned (.bool true) ∧ Below w.heap.size w w' := by
  cases long
  · exact changes_false n at_ by_ w
  · exact changes_true n at_ by_ w
end Go.Proofs.YtjgbadopladmdaaDoor
