/- relaunch.Lines: the walk. -/
import Derived.Test.YtjgbadopladmdaaDoorRenW
import Derived.Test.YtjgbadopladmdaaDoorLinM
import Derived.Test.YtjgbadopladmdaaDoorLinS
namespace Go.Proofs.YtjgbadopladmdaaDoor
open Go.RowKit Rel

theorem infoS : (Tryd.prog.info? 9).map (fun i => (i.zero, i.size, i.bytes)) = some (some (.string ⟨#[]⟩), 1, 16) := by kernel_rfl
theorem infoL : (Tryd.prog.info? 62).map (fun i => (i.zero, i.size, i.bytes)) = some (some (.slice none 0 0), 1, 24) := by kernel_rfl

/-- the lines of a list of relaunches; none if the relaunches are not valid -/
def IsLinesOf (L : List Lk) (Ls : List (List ByteArray)) : Prop := (errno L = 0 → IsLines L Ls) ∧ (errno L ≠ 0 → Ls = [])
theorem IsLinesOf.unique {L : List Lk} {X Y : List (List ByteArray)} (hX : IsLinesOf L X) (hY : IsLinesOf L Y) : X = Y := by
  by_cases hz : errno L = 0
  · exact (hX.1 hz).unique (hY.1 hz)
  · rw [hX.2 hz, hY.2 hz]
/-- what both Lines leave -/
def LinesR (w : World) (L : List Lk) (e : Ending) (w' : World) : Prop :=
  ∃ v Ls, e = .returned v ∧ Lined w' w.heap.size v Ls ∧ IsLinesOf L Ls ∧ Below w.heap.size w w'

/-- a list that grows: the step -/
theorem snoc_map (acc : List ByteArray) (o : ByteArray) : acc.map Value.string ++ (#[Value.string o] : Array Value).toList = (acc ++ [o]).map Value.string := by simp
theorem snoc_zs (zs : List (Value × List ByteArray)) (v : Value) (l : List ByteArray) : zs.map (·.1) ++ (#[v] : Array Value).toList = (zs ++ [(v, l)]).map (·.1) := by simp

set_option maxHeartbeats 8000000 in
set_option maxRecDepth 100000 in
theorem lines_any (hsort : SortsLines) (A : Option Addr) (n c B : Nat) (L : List Lk) (w : World) (h : Links w B A n L) (hB : B ≤ w.heap.size) (hcap : n ≤ c) :
    Calls Tryd.prog 45 #[.slice A n c] w (LinesR w L) := by
  obtain ⟨i9, hi, hi0, hi1, hi2⟩ := info_parts infoS
  obtain ⟨i62, hj, hj0, hj1, hj2⟩ := info_parts infoL
  have HSORT := hide hsort
  clear hsort
  have hval := validate_any A n c B L w h hB hcap
  have HV := hide hval
  clear hval
  by_cases hz : errno L = 0
  · have Hg := hide (good_of hz).1
    have He := hide hz
    have hval' : Calls Tryd.prog 41 #[.slice A n c] w fun e w' => e = .returned (.int .i64 0) ∧ Below w.heap.size w w' := by rw [← hz]; exact HV.out
    have HV' := hide hval'
    clear HV hval' hz
    have hLs : L.length ≤ 100000 := by have h1 := h.len; have h2 := h.small; omega
    have Hsh := hide h.short
    go_enter Tryd.func45, Tryd.ntmps45
    go_wp2_with fail
    with_reducible refine HV'.out.mono ?_
    rintro e w1 ⟨rfl, hB1⟩
    have hz1' := hB1.size
    have hcon := sides_any A n c B L w1 (h.below (hB1.mono hB)) (Nat.le_trans hB hz1') Hg.out.uniq
    have HS := hide hcon
    clear hcon
    go_wp2_with fail
    with_reducible refine HS.out.mono ?_
    rintro e w2 ⟨b1, b2, rfl, hb1, hb2, hm1, hm2, hB2⟩
    have hbw := below_trans hB1 hB2
    have hz2' := hB2.size
    have hl1 := hm1.lt
    have hl2 := hm2.lt
    clear hB1 hB2 hb1 hb2
    go_wp2_with (first | (at_range; refine wpList_srange w2 rfl _ rfl b1 L.length (Rel.forth L) rfl hm1 ?_; intro w3 cnt0 hr0 hg0 hs0) | go_in)
    go_frame
    have hm3 := hm2.kept hg0 (by simp)
    have hbw3 := hbw.grown hg0 (Nat.le_trans hz1' hz2') (fun g hg => by cases hg)
    have hs1 : w2.heap.size < w3.heap.size := by omega
    clear hs0 hm1 hm2 hg0
    go_loopw [5] (fun v wr => ∃ (zs : List (Value × List ByteArray)) (todo : ByteArray → Bool) (cnt : Nat), wr.ownsRow w3.heap.size 62 1 v zs.length (zs.map (·.1)) ∧ Hid (∀ p ∈ zs, LineV wr w3.heap.size p) ∧ SRange wr b1 w2.heap.size L.length (forth L) todo cnt ∧ SMap wr b2 L.length (back L) ∧ Hid (Gath L todo zs) ∧ Below w.heap.size w wr ∧ w3.heap.size ≤ wr.heap.size) (fun _ wr => wr.rangeLeft b1 w2.heap.size)
    case atStart => exact ⟨[], _, cnt0, ownsRow_nil' _ _ _ _, fun p hp => absurd hp (by simp), hr0, hm3, gath_start L, hbw3, Nat.le_refl _⟩
    case round =>
      obtain ⟨zs, todo, cnt, hown, HL, hr, hmb, HG, hb, hz3⟩ := hrel
      have hzl := gath_len Hg.out.uniq HG.out
      go_wp2_with (first | (at_next; refine wpList_snext wr rfl _ rfl b1 w2.heap.size L.length (Rel.forth L) todo cnt rfl hr ?_ ?_) | go_in)
      · intro hdone
        obtain ⟨Ao, co, rfl, hnc, hcm⟩ := own_form hown
        have hso := HSORT.out Ao zs.length co w3.heap.size zs wr hown rfl (by omega) (fun p hp => ⟨HL.out p hp, gath_pos HG.out hp⟩) (gath_fk HG.out) hz3
        have HSO := hide hso
        have Hdone := hide hdone
        clear hso hdone
        go_wp2_with (go_at_call 69; with_reducible refine HSO.out.mono ?_; rintro e w4 ⟨rfl, ts, hown4, htl, htm, htL, hts, hB4⟩)
        go_ret
        refine ⟨_, ts.map (·.2), rfl, ⟨ts, rfl, ?_, fun p hp => (htL p hp).base_ hbw3.size⟩, ⟨fun _ => gath_end Hg.out.uniq HG.out Hdone.out htm hts, fun hne => absurd He.out hne⟩, hb.trans (hB4.mono hbw3.size)⟩
        rw [htl]
        exact ownsRow_base hown4 hbw3.size
      · intro s v w4 cnt' hss hts hr4 hlt hg4 hs4 hen
        have hown4 := own_kept hown hg4 (fun g hg hp => by have h1 := own_block_ge hown g hp; have h2 := Option.some.inj hg; omega)
        have HL4 : Hid (∀ p ∈ zs, LineV w4 w3.heap.size p) := fun p hp => own_kept (HL.out p hp) hg4 (fun g hg hq => by have h1 := own_block_ge (HL.out p hp) g hq; have h2 := Option.some.inj hg; omega)
        have hmb4 := hmb.kept hg4 (by simp; omega)
        have hb4 := hb.grown hg4 hb.size (fun g hg => by have h2 := Option.some.inj hg; have h3 := hbw.size; omega)
        have hmf4 := hr4.map
        have hm0 := hide hr.left_eq
        have Hts := hide hts
        have hlf := hmf4.lt
        clear hown HL hmb hr hb hg4 hts
        cases hbk : Rel.back L s with
        | some o =>
          have Hbk := hide hbk
          clear hbk
          go_wp2_with (first | (at_lookup; refine wpList_look w4 rfl _ _ rfl b2 L.length _ rfl hmb4 s rfl hss ?_; intro v2 _ hv2; rw [Hbk.out]; clear hv2) | go_in)
          go_roundw
          case rel => exact ⟨zs, _, cnt', hown4, HL4, hr4, hmb4, gath_skip HG.out Hbk.out, hb4, by omega⟩
          case measure => rw [hr4.left_eq, hm0.out]; exact hlt
        | none =>
          have Hbk := hide hbk
          clear hbk
          go_wp2_with (first
            | (at_lookup; refine wpList_look w4 rfl _ _ rfl b2 L.length _ rfl hmb4 s rfl hss ?_; intro v2 _ hv2; rw [Hbk.out]; clear hv2)
            | (at_lookup; refine wpList_look (w4.alloc (.cells #[.string s] 9)) rfl _ _ rfl b1 L.length _ rfl (hmf4.alloc _) s rfl hss ?_; intro v3 hv3s hv3; have Hv3 := hide hv3; clear hv3)
            | go_in)
          go_loopg [9, 10, 11] L.length (fun g vl tl ol wr => ∃ (acc : List ByteArray) (cur nx : ByteArray), tl = .string nx ∧ ol = .bool (Rel.forth L cur).isSome ∧ Hid (∀ u, Rel.forth L cur = some u → nx = u) ∧ Hid (Walks L s acc g cur) ∧ wr.ownsRow w4.heap.size 9 1 vl acc.length (acc.map .string) ∧ Below w4.heap.size w4 wr ∧ nx.size ≤ maxLen)
          case atStart => exact ⟨[s], s, v3, rfl, rfl, Hv3.out, walks_start L s, World.ownsRow_lit (size := 1) w4 #[.string s] (e := 9) 1 (Nat.le_refl _) (by decide) rfl, (Below.refl _ _).alloc (Nat.le_refl _) _, hv3s⟩
          case round =>
            obtain ⟨acc, cur, nx, rfl, ho, Hto, HW, hownl, hbl, hts2⟩ := hrel
            have hal := walks_len HW.out
            have hzl2 := hbl.size
            cases hf : Rel.forth L cur with
            | none =>
              rw [hf] at ho
              simp only [Option.isSome_none] at ho
              subst ho
              have HE := hide (walks_end HW.out hf)
              clear hf
              obtain ⟨A9, c9, rfl, _, _⟩ := own_form hownl
              have hownO := own_below hown4 hbl (own_block_lt hown4)
              go_wp2_with (first
                | (at_builtin; refine wpList_append_elem' wr wr.heap.size rfl rfl _ _ 69 rfl w3.heap.size 62 i62 _ 1 24 Tryd.underlying69 hj hj0 hj1 hj2 rfl (by omega) (by omega) _ zs.length _ rfl hownO #[.slice A9 acc.length c9] rfl rfl rfl (by simp [Value.oneCell']) (by omega) (by omega) ?_
                   intro v5 w5 hown5 hg5 _)
                | go_in)
              have hs5 := hg5.size
              have hb5 : Below w.heap.size w w5 := ((hb4.trans (hbl.mono hb4.size)).grown hg5 (Nat.le_trans hb4.size hzl2) (fun g hg => by have h1 := own_block_ge hownO g hg; have h2 := hbw3.size; omega))
              have hr5 := (hr4.kept (only_of_below hbl none) (by simp) (by simp)).kept hg5 (row_ne_low hownO (by omega)) (row_ne_low hownO (by omega))
              have hm5 := (hmb4.kept (only_of_below hbl none) (by simp)).kept hg5 (row_ne_low hownO (by omega))
              have HL5 : Hid (∀ p ∈ zs ++ [(Value.slice A9 acc.length c9, acc)], LineV w5 w3.heap.size p) := fun p hp => by
                rcases List.mem_append.1 hp with hp | hp
                · exact ((HL4.out p hp).below hbl (Nat.le_refl _)).row hownO hg5
                · obtain rfl : p = (Value.slice A9 acc.length c9, acc) := by simpa using hp
                  have h1 : LineV wr w4.heap.size (Value.slice A9 acc.length c9, acc) := hownl
                  exact (h1.row hownO hg5).base_ (by omega)
              have HG5 : Hid (Gath L (fun t => todo t && !decide (t = s)) (zs ++ [(Value.slice A9 acc.length c9, acc)])) := by
                have h1 := gath_add (v := Value.slice A9 acc.length c9) HG.out Hbk.out Hts.out
                rw [← HE.out] at h1
                exact h1
              have hown6 : w5.ownsRow w3.heap.size 62 1 v5 (zs ++ [(Value.slice A9 acc.length c9, acc)]).length ((zs ++ [(Value.slice A9 acc.length c9, acc)]).map (·.1)) := by
                rw [← snoc_zs, List.length_append]
                exact hown5
              clear hown5 hownO hg5
              go_roundw
              case rel => exact ⟨_, _, cnt', hown6, HL5, hr5, hm5, HG5, hb5, by omega⟩
              case measure => rw [hr5.left_eq, hm0.out]; exact hlt
            | some o =>
              rw [hf] at ho
              simp only [Option.isSome_some] at ho
              subst ho
              have e0 := Hto.out o hf
              subst e0
              obtain ⟨g', e, hw'⟩ := walks_next Hg.out HW.out hf
              have He' := hide e
              have HW' := hide hw'
              clear e hw' hf
              go_wp2_with (first
                | (at_builtin; refine wpList_append_elem' wr wr.heap.size rfl rfl _ _ 62 rfl w4.heap.size 9 i9 _ 1 16 Tryd.underlying62 hi hi0 hi1 hi2 rfl (by omega) (by omega) _ acc.length _ rfl hownl #[.string nx] rfl rfl rfl (by simp [Value.oneCell']) (by omega) (by omega) ?_
                   intro v6 w6 hown6 hg6 _
                   have hb6 := below_own hbl hownl hg6 (Nat.le_refl _) hzl2
                   rw [snoc_map] at hown6
                   have hm6 := hmf4.below hb6 hlf)
                | (at_lookup; refine wpList_look w6 rfl _ _ rfl b1 L.length _ rfl hm6 nx rfl hts2 ?_; intro v7 hv7s hv7; have Hv7 := hide hv7; clear hv7)
                | go_in)
              have hown7 : w6.ownsRow w4.heap.size 9 1 v6 (acc ++ [nx]).length ((acc ++ [nx]).map .string) := by
                rw [List.length_append]
                exact hown6
              go_roundg g'
              case measure => have := He'.out; omega
              case rel => exact ⟨acc ++ [nx], nx, v7, rfl, rfl, Hv7.out, HW'.out, hown7, hb6, hv7s⟩
  · have hne := err_ne hz
    have Hz := hide hz
    clear hz
    go_enter Tryd.func45, Tryd.ntmps45
    go_wp2_with fail
    with_reducible refine HV.out.mono ?_
    rintro e w1 ⟨rfl, hB1⟩
    go_wp2
    go_ret
    exact ⟨_, [], rfl, Lined.nil _ _, ⟨fun he => absurd he Hz.out, fun _ => rfl⟩, hB1⟩
end Go.Proofs.YtjgbadopladmdaaDoor
