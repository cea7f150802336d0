/- Rename and Line of both relaunch packages: the walks. -/
import Derived.Test.YtjgbadopladmdaaDoorRelY
namespace Go.Proofs.YtjgbadopladmdaaDoor
open Go.RowKit Rel

theorem info43 : (Tryd.prog.info? 43).map (fun i => (i.zero, i.size, i.bytes)) = some (some (.agg #[.string ⟨#[]⟩, .string ⟨#[]⟩, .int .i64 0, .int .i64 0, .int .i64 0]), 5, 56) := by kernel_rfl

/-- the line of an ID; empty if the relaunches are not valid -/
def lineOf (L : List Lk) (id : ByteArray) : ByteArray := if errno L = 0 then line L id else ⟨#[]⟩
theorem lineOf_ok {L : List Lk} {id : ByteArray} (h : errno L = 0) : lineOf L id = line L id := if_pos h
theorem lineOf_no {L : List Lk} {id : ByteArray} (h : errno L ≠ 0) : lineOf L id = ⟨#[]⟩ := if_neg h
def ren (L : List Lk) (r : Rw) : Rw := { r with p := line L r.p }
/-- the rows with the lines of their products; none if the relaunches are not valid -/
def renamed (L : List Lk) (R : List Rw) : List Rw := if errno L = 0 then R.map (ren L) else []

/-- what both Rename leave -/
def Renamed (w : World) (L : List Lk) (R : List Rw) (e : Ending) (w' : World) : Prop :=
  ∃ v, e = .returned v ∧ w'.ownsRow w.heap.size 43 5 v (renamed L R).length ((renamed L R).flatMap rc) ∧ Below w.heap.size w w'

theorem ren_next {L : List Lk} {R : List Rw} {k : Nat} {r : Rw} (h : R[k]? = some r) : ((R.take (k + 1)).map (ren L)).flatMap rc = ((R.take k).map (ren L)).flatMap rc ++ (#[Value.string r.o, .string (line L r.p), .int .i64 r.a, .int .i64 r.b, .int .i64 r.c] : Array Value).toList := by
  obtain ⟨hk, e⟩ := List.getElem?_eq_some_iff.1 h
  rw [List.take_succ_eq_append_getElem hk, e, List.map_append, List.flatMap_append]
  rfl
theorem err_ne {L : List Lk} (h : errno L ≠ 0) : (errno L != 0) = true := by rw [bne_iff_ne]; exact h
theorem err_eq {L : List Lk} (h : errno L = 0) : (errno L != 0) = false := by rw [h]; rfl

set_option maxHeartbeats 4000000 in
set_option maxRecDepth 100000 in
theorem rename_any (A A2 : Option Addr) (n c n2 cc2 B : Nat) (L : List Lk) (R : List Rw) (w : World) (h : Links w B A2 n2 L) (hr : Recs rc 5 w B A n R) (hB : B ≤ w.heap.size) (hcap : n2 ≤ cc2) (hsz : ∀ r ∈ R, r.p.size ≤ maxLen) :
    Calls Tryd.prog 25 #[.slice A n c, .slice A2 n2 cc2] w (Renamed w L R) := by
  obtain ⟨i0, hi, hz0, hz1, hz2⟩ := info_parts info43
  have hsm := hr.small
  have hl := hr.len
  have Hl := hide hl
  have Hsz := hide hsz
  clear hl hsz
  have hval := validate_any A2 n2 cc2 B L w h hB hcap
  have HV := hide hval
  clear hval
  by_cases hz : errno L = 0
  · have Hg := hide (good_of hz).1
    have He := hide hz
    have hez := err_eq hz
    have hval' : Calls Tryd.prog 41 #[.slice A2 n2 cc2] w fun e w' => e = .returned (.int .i64 0) ∧ Below w.heap.size w w' := by rw [← hz]; exact HV.out
    have HV' := hide hval'
    clear HV hval' hz hez
    go_enter Tryd.func25, Tryd.ntmps25
    go_wp2_with fail
    with_reducible refine HV'.out.mono ?_
    rintro e w1 ⟨rfl, hB1⟩
    have hz1' := hB1.size
    have hcon := sides_any A2 n2 cc2 B L w1 (h.below (hB1.mono hB)) (Nat.le_trans hB hz1') Hg.out.uniq
    have HS := hide hcon
    clear hcon
    go_wp2_with fail
    with_reducible refine HS.out.mono ?_
    rintro e w2 ⟨b1, b2, rfl, hb1, hb2, hm1, hm2, hB2⟩
    have hbw := below_trans hB1 hB2
    have hz2' := hB2.size
    have hlt2 := hm2.lt
    clear hm1 hb1 hb2
    go_wp2
    go_loopw [7, 20] (fun v i wr => ∃ k : Nat, k ≤ n ∧ i = .int .i64 k ∧ wr.ownsRow w2.heap.size 43 5 v k (((R.take k).map (ren L)).flatMap rc) ∧ Below w2.heap.size w2 wr) (fun _ i _ => n - (intOf i).toNat)
    case atStart => exact ⟨0, Nat.zero_le _, rfl, ownsRow_nil' _ _ _ _, Below.refl _ _⟩
    case round =>
      obtain ⟨k, hk, rfl, hown, hb⟩ := hrel
      have hz3 := hb.size
      by_cases hlt : k < n
      · have hbo := hbw.trans (hb.mono (Nat.le_trans hz1' hz2'))
        obtain ⟨ad, r, rfl, hab, hR, c0, cj⟩ := (hr.below (hbo.mono hB)).at_ rc_len (by omega) hlt
        have HR := hide hR
        have hps := Hsz.out r (List.mem_of_getElem? hR)
        have c1 := cj 1 (by omega) (by omega)
        have c2 := cj 2 (by omega) (by omega)
        have c3 := cj 3 (by omega) (by omega)
        have c4 := cj 4 (by omega) (by omega)
        obtain ⟨ro, rp, ra, rb, rcc⟩ := r
        simp only [rc, List.getElem?_cons_zero, List.getElem?_cons_succ] at c0 c1 c2 c3 c4
        clear cj hR
        have hst := fun O => start_any b2 L.length L rp (wr.alloc O) ((hm2.below hb hlt2).alloc O) Hg.out hps h.short
        have HST := hide hst
        clear hst
        go_wp2_with (first
          | (go_at_call 52; with_reducible refine (HST.out _).mono ?_; rintro e w4 ⟨rfl, rfl⟩)
          | (at_builtin; refine wpList_append_elem' (wr.alloc (.cells #[.string ro, .string (line L rp), .int .i64 ra, .int .i64 rb, .int .i64 rcc] 43)) (wr.heap.size + 1) (by simp) rfl _ _ 29 rfl w2.heap.size 43 i0 _ 5 56 Tryd.underlying29 hi hz0 hz1 hz2 rfl (by omega) (by omega) _ k _ rfl (hown.alloc _) #[.string ro, .string (line L rp), .int .i64 ra, .int .i64 rb, .int .i64 rcc] rfl rfl rfl (by simp [Value.oneCell']) (by omega) (by simp; omega) ?_
             intro v5 w5 hown5 hg5 _
             have hb5 := below_own (hb.alloc hz3 (.cells #[.string ro, .string (line L rp), .int .i64 ra, .int .i64 rb, .int .i64 rcc] 43)) (hown.alloc (.cells #[.string ro, .string (line L rp), .int .i64 ra, .int .i64 rb, .int .i64 rcc] 43)) hg5 (Nat.le_refl _) (by simp; omega)
             rw [← ren_next HR.out] at hown5
             clear hown hg5))
        go_roundw
        case rel => exact ⟨k + 1, by omega, by go_num, hown5, hb5⟩
        case measure => simp [intOf]; omega
      · obtain rfl : k = n := by omega
        have hl := Hl.out
        rw [List.take_of_length_le (by omega)] at hown
        go_wp2
        go_ret
        refine ⟨_, rfl, ?_, hbw.trans (hb.mono (Nat.le_trans hz1' hz2'))⟩
        unfold renamed
        rw [if_pos He.out, List.length_map, ← hl]
        exact ownsRow_base hown (Nat.le_trans hz1' hz2')
  · have hne := err_ne hz
    have Hz := hide hz
    clear hz
    go_enter Tryd.func25, Tryd.ntmps25
    go_wp2_with fail
    with_reducible refine HV.out.mono ?_
    rintro e w1 ⟨rfl, hB1⟩
    go_wp2
    go_ret
    refine ⟨_, rfl, ?_, hB1⟩
    unfold renamed
    rw [if_neg Hz.out]
    exact ownsRow_nil' _ _ _ _

set_option maxHeartbeats 4000000 in
set_option maxRecDepth 100000 in
theorem rrename_any (A A2 : Option Addr) (n c n2 cc2 B : Nat) (L : List Lk) (R : List Rw) (w : World) (h : Links w B A2 n2 L) (hr : Recs rc 5 w B A n R) (hB : B ≤ w.heap.size) (hcap : n2 ≤ cc2) :
    Calls Tryd.prog 26 #[.slice A n c, .slice A2 n2 cc2] w (Renamed w L R) := by
  obtain ⟨i0, hi, hz0, hz1, hz2⟩ := info_parts info43
  have hsm := hr.small
  have hl := hr.len
  have Hl := hide hl
  clear hl
  have hval := rvalidate_any A2 n2 cc2 B L w h hB hcap
  have HV := hide hval
  clear hval
  by_cases hz : errno L = 0
  · have Hg := hide (good_of hz).1
    have He := hide hz
    have hval' : Calls Tryd.prog 42 #[.slice A2 n2 cc2] w fun e w' => e = .returned (.int .i64 0) ∧ Below w.heap.size w w' := by rw [← hz]; exact HV.out
    have HV' := hide hval'
    clear HV hval' hz
    go_enter Tryd.func26, Tryd.ntmps26
    go_wp2_with fail
    with_reducible refine HV'.out.mono ?_
    rintro e w2 ⟨rfl, hbw⟩
    have hz2' := hbw.size
    go_wp2
    go_loopw [5, 13] (fun v i wr => ∃ k : Nat, k ≤ n ∧ i = .int .i64 k ∧ wr.ownsRow w2.heap.size 43 5 v k (((R.take k).map (ren L)).flatMap rc) ∧ Below w2.heap.size w2 wr) (fun _ i _ => n - (intOf i).toNat)
    case atStart => exact ⟨0, Nat.zero_le _, rfl, ownsRow_nil' _ _ _ _, Below.refl _ _⟩
    case round =>
      obtain ⟨k, hk, rfl, hown, hb⟩ := hrel
      have hz3 := hb.size
      by_cases hlt : k < n
      · have hbo := hbw.trans (hb.mono hz2')
        obtain ⟨ad, r, rfl, hab, hR, c0, cj⟩ := (hr.below (hbo.mono hB)).at_ rc_len (by omega) hlt
        have HR := hide hR
        have c1 := cj 1 (by omega) (by omega)
        have c2 := cj 2 (by omega) (by omega)
        have c3 := cj 3 (by omega) (by omega)
        have c4 := cj 4 (by omega) (by omega)
        obtain ⟨ro, rp, ra, rb, rcc⟩ := r
        simp only [rc, List.getElem?_cons_zero, List.getElem?_cons_succ] at c0 c1 c2 c3 c4
        clear cj hR
        have hst := first_any A2 n2 cc2 B L rp (wr.alloc (.cells #[.string ro, .string rp, .int .i64 ra, .int .i64 rb, .int .i64 rcc] 43)) ((h.below (hbo.mono hB)).below ((Below.refl B wr).alloc (Nat.le_trans hB hbo.size) _)) (by have := hbo.size; simp; omega) Hg.out
        have HST := hide hst
        clear hst
        go_wp2_with (first
          | (go_at_call 53
             with_reducible refine HST.out.mono ?_
             rintro e w4 ⟨rfl, hB4⟩
             have hz4 := hB4.size
             have hlb : wr.heap.size < (wr.alloc (.cells #[.string ro, .string rp, .int .i64 ra, .int .i64 rb, .int .i64 rcc] 43)).heap.size := by simp
             have e0 := (hB4.cell (p := ⟨wr.heap.size, 0, none⟩) hlb).trans (World.cell?_alloc_mark wr _ 43 (0, 0) 0)
             have e1 := (hB4.cell (p := ⟨wr.heap.size, 1, none⟩) hlb).trans (World.cell?_alloc_mark wr _ 43 (0, 0) 1)
             have e2 := (hB4.cell (p := ⟨wr.heap.size, 2, none⟩) hlb).trans (World.cell?_alloc_mark wr _ 43 (0, 0) 2)
             have e3 := (hB4.cell (p := ⟨wr.heap.size, 3, none⟩) hlb).trans (World.cell?_alloc_mark wr _ 43 (0, 0) 3)
             have e4 := (hB4.cell (p := ⟨wr.heap.size, 4, none⟩) hlb).trans (World.cell?_alloc_mark wr _ 43 (0, 0) 4)
             have ef : w4.frozen? ⟨wr.heap.size, 1, none⟩ = false := (hB4.frozen (p := ⟨wr.heap.size, 1, none⟩) hlb).trans (Blk.frozen (Blk.new wr 43 _) 1)
             have hlo := own_block_lt hown
             have hb4 := (hb.alloc hz3 (.cells #[.string ro, .string rp, .int .i64 ra, .int .i64 rb, .int .i64 rcc] 43)).trans (hB4.mono (by simp; omega))
             have hbs := hb4.setCell (p := ⟨wr.heap.size, 1, none⟩) (by simp; omega) (.string (line L rp))
             have hown4 := own_below (own_below hown ((Below.refl wr.heap.size wr).alloc (Nat.le_refl _) (.cells #[.string ro, .string rp, .int .i64 ra, .int .i64 rb, .int .i64 rcc] 43)) hlo) hB4 (fun g hg => by have := hlo g hg; simp; omega)
             have hown5 := own_below hown4 ((Below.refl wr.heap.size w4).setCell (p := ⟨wr.heap.size, 1, none⟩) (Nat.le_refl _) (.string (line L rp))) hlo
             clear hown hown4 hlo hb4)
          | (at_builtin; refine wpList_append_elem' (w4.setCell ⟨wr.heap.size, 1, none⟩ (.string (line L rp))) w4.heap.size (by simp) rfl _ _ 29 rfl w2.heap.size 43 i0 _ 5 56 Tryd.underlying29 hi hz0 hz1 hz2 rfl (by omega) (by omega) _ k _ rfl hown5 #[.string ro, .string (line L rp), .int .i64 ra, .int .i64 rb, .int .i64 rcc] rfl rfl rfl (by simp [Value.oneCell']) (by omega) hbs.size ?_
             intro v5 w5 hown6 hg5 _
             have hb5 := below_own hbs hown5 hg5 (Nat.le_refl _) hbs.size
             rw [← ren_next HR.out] at hown6
             clear hown5 hg5))
        go_roundw
        case rel => exact ⟨k + 1, by omega, by go_num, hown6, hb5⟩
        case measure => simp [intOf]; omega
      · obtain rfl : k = n := by omega
        have hl := Hl.out
        rw [List.take_of_length_le (by omega)] at hown
        go_wp2
        go_ret
        refine ⟨_, rfl, ?_, hbw.trans (hb.mono hz2')⟩
        unfold renamed
        rw [if_pos He.out, List.length_map, ← hl]
        exact ownsRow_base hown hz2'
  · have hne := err_ne hz
    have Hz := hide hz
    clear hz
    go_enter Tryd.func26, Tryd.ntmps26
    go_wp2_with fail
    with_reducible refine HV.out.mono ?_
    rintro e w1 ⟨rfl, hB1⟩
    go_wp2
    go_ret
    refine ⟨_, rfl, ?_, hB1⟩
    unfold renamed
    rw [if_neg Hz.out]
    exact ownsRow_nil' _ _ _ _

set_option maxHeartbeats 1000000 in
/-- the program's Line -/
theorem line_any (A2 : Option Addr) (n2 cc2 B : Nat) (L : List Lk) (id : ByteArray) (w : World) (h : Links w B A2 n2 L) (hB : B ≤ w.heap.size) (hcap : n2 ≤ cc2) (hs : id.size ≤ maxLen) :
    Calls Tryd.prog 28 #[.slice A2 n2 cc2, .string id] w fun e w' => e = .returned (.string (lineOf L id)) ∧ Below w.heap.size w w' := by
  have hval := validate_any A2 n2 cc2 B L w h hB hcap
  have HV := hide hval
  clear hval
  by_cases hz : errno L = 0
  · have Hg := hide (good_of hz).1
    have He := hide hz
    have hval' : Calls Tryd.prog 41 #[.slice A2 n2 cc2] w fun e w' => e = .returned (.int .i64 0) ∧ Below w.heap.size w w' := by rw [← hz]; exact HV.out
    have HV' := hide hval'
    clear HV hval' hz
    go_enter Tryd.func28, Tryd.ntmps28
    go_wp2_with fail
    with_reducible refine HV'.out.mono ?_
    rintro e w1 ⟨rfl, hB1⟩
    have hz1' := hB1.size
    have hcon := sides_any A2 n2 cc2 B L w1 (h.below (hB1.mono hB)) (Nat.le_trans hB hz1') Hg.out.uniq
    have HS := hide hcon
    clear hcon
    go_wp2_with fail
    with_reducible refine HS.out.mono ?_
    rintro e w2 ⟨b1, b2, rfl, hb1, hb2, hm1, hm2, hB2⟩
    have hst := start_any b2 L.length L id w2 hm2 Hg.out hs h.short
    have HST := hide hst
    clear hst
    go_wp2_with (go_at_call 52; with_reducible refine HST.out.mono ?_; rintro e w4 ⟨rfl, rfl⟩)
    go_ret
    exact ⟨ret_s (lineOf_ok He.out).symm, below_trans hB1 hB2⟩
  · have hne := err_ne hz
    have Hz := hide hz
    clear hz
    go_enter Tryd.func28, Tryd.ntmps28
    go_wp2_with fail
    with_reducible refine HV.out.mono ?_
    rintro e w1 ⟨rfl, hB1⟩
    go_wp2
    go_ret
    exact ⟨ret_s (lineOf_no Hz.out).symm, hB1⟩

set_option maxHeartbeats 1000000 in
/-- the reference's Line -/
theorem rline_any (A2 : Option Addr) (n2 cc2 B : Nat) (L : List Lk) (id : ByteArray) (w : World) (h : Links w B A2 n2 L) (hB : B ≤ w.heap.size) (hcap : n2 ≤ cc2) :
    Calls Tryd.prog 43 #[.slice A2 n2 cc2, .string id] w fun e w' => e = .returned (.string (lineOf L id)) ∧ Below w.heap.size w w' := by
  have hval := rvalidate_any A2 n2 cc2 B L w h hB hcap
  have HV := hide hval
  clear hval
  by_cases hz : errno L = 0
  · have Hg := hide (good_of hz).1
    have He := hide hz
    have hval' : Calls Tryd.prog 42 #[.slice A2 n2 cc2] w fun e w' => e = .returned (.int .i64 0) ∧ Below w.heap.size w w' := by rw [← hz]; exact HV.out
    have HV' := hide hval'
    clear HV hval' hz
    go_enter Tryd.func43, Tryd.ntmps43
    go_wp2_with fail
    with_reducible refine HV'.out.mono ?_
    rintro e w1 ⟨rfl, hB1⟩
    have hst := first_any A2 n2 cc2 B L id w1 (h.below (hB1.mono hB)) (Nat.le_trans hB hB1.size) Hg.out
    have HST := hide hst
    clear hst
    go_wp2_with (go_at_call 53; with_reducible refine HST.out.mono ?_; rintro e w4 ⟨rfl, hB4⟩)
    go_ret
    exact ⟨ret_s (lineOf_ok He.out).symm, below_trans hB1 hB4⟩
  · have hne := err_ne hz
    have Hz := hide hz
    clear hz
    go_enter Tryd.func43, Tryd.ntmps43
    go_wp2_with fail
    with_reducible refine HV.out.mono ?_
    rintro e w1 ⟨rfl, hB1⟩
    go_wp2
    go_ret
    exact ⟨ret_s (lineOf_no Hz.out).symm, hB1⟩
end Go.Proofs.YtjgbadopladmdaaDoor
