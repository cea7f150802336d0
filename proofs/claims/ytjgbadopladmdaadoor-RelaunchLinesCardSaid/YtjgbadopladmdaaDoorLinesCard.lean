/- The card of RelaunchLines: for every input the law answers true, and the arguments read as before. No condition on the input. -/
import Derived.Test.YtjgbadopladmdaaDoorBase
import Derived.Test.YtjgbadopladmdaaDoorKept
import Derived.Test.YtjgbadopladmdaaDoorLinesW
namespace Go.Proofs.YtjgbadopladmdaaDoor.relaunchLines
open Go.ChangeShapes Go.WideShapes Go.ChangeAt Go.RowKit
open Go.ChangeMaps (open_string shut_string)

set_option maxRecDepth 100000 in
theorem contract (H : Type) (enc : TypeId × Value → H) (W : World) (base : Nat) (args : Array Value) (ds gs : List (DataW H)) (before : List MemPlace)
    (hval : ∀ (j : Nat) t v, Tryd.f12.params[j]? = some t → args[j]? = some v → Value.okWide Tryd.prog W .any base t v)
    (hW : DataW.Whole enc Tryd.prog Tryd.f12.params.toList Rows.relaunchLinesSpec.vars false W args.toList ds gs before) :
    Calls Tryd.prog 12 args W fun e W' => ∃ v, e = .returned v ∧ Rows.relaunchLinesSpec.post enc Tryd.prog Tryd.f12 false true false false W args v W' := by
  have hW' := hW
  obtain ⟨p, q, hA0, hV, rfl, hfz, hnd⟩ := hW
  have hA : DataW.TrodAll enc Tryd.prog W 0 (fun _ => true) true Tryd.f12.params.toList args.toList ds p := hA0
  rw [Tryd.params12] at hA hval
  obtain ⟨v0, vs0, d0, ds0, p0, q0, hargs, rfl, rfl, h0, r0⟩ := trodAll_cons hA
  obtain ⟨rfl, rfl, rfl⟩ := trodAll_nil r0
  obtain rfl : args = #[v0] := by cases args; simp_all
  obtain ⟨rfl, rfl⟩ := trodVars_none hV
  have okv0 := hval 0 31 v0 rfl rfl
  clear hA0
  simp only [List.append_nil] at hW'
  have hlt0 : ∀ x ∈ p0, x.block < W.heap.size := fun x hx => hW'.lt x (by simp [hx])
  obtain ⟨a0, len0, cap0, rfl⟩ := okWide_slice Tryd.underlying31 okv0
  obtain ⟨zs, hr, hn⟩ : ∃ zs : List Int, Reads W W.heap.size 1 a0 len0 (zs.map (Value.int .i64)) ∧ len0 ≤ maxLen := by
    obtain ⟨fuel, hf⟩ := h0
    rcases open_ints Tryd.underlying31 Tryd.underlying3 (by kernel_rfl) hf with ⟨e, _⟩ | ⟨a, len, cap, zs, e, _, hlc, hcm, hzl, e2, hcell, _⟩
    · simp [Value.cells] at e
      obtain ⟨rfl, rfl, rfl⟩ := e
      exact ⟨[], Reads.none_, Nat.zero_le _⟩
    · simp [Value.cells] at e
      obtain ⟨rfl, rfl, rfl⟩ := e
      have hle : len0 ≤ zs.length := by rw [hzl]; split <;> omega
      refine ⟨zs.take len0, ⟨by simp; omega, fun h0 => ⟨a, rfl, ?_, fun j u hu => ?_⟩⟩, by omega⟩
      · have hc0 := hcell 0 (by omega)
        have := World.block_lt_of_cell? W _ hc0
        rwa [block_of_add] at this
      · rw [List.getElem?_map] at hu
        cases hj : (zs.take len0)[j]? with
        | none => rw [hj] at hu; cases hu
        | some z =>
          rw [hj] at hu
          obtain rfl := Option.some.inj hu
          obtain ⟨hjl, hjz⟩ := List.getElem?_eq_some_iff.1 hj
          rw [List.length_take] at hjl
          rw [List.getElem_take] at hjz
          have := hcell j (by omega)
          rw [this, List.getD_eq_getElem?_getD, List.getElem?_eq_getElem (by omega), ← hjz]
          rfl
  refine (lines_law a0 len0 cap0 W.heap.size zs W hr (Nat.le_refl _) hn).mono fun e W' ⟨he, hg⟩ => ?_
  subst he
  exact ⟨_, rfl, post_of_below (pa := p0 ++ []) (pv := []) hW' (fun _ _ _ => trodAll_cons_mk (shut_bool Tryd.underlying4 _) trodAll_mk0) (fun sp hsp => trodAll_cons_mk (trod_any laidOut (by kernel_rfl) (of_decide_eq_true (by kernel_rfl)) h0 hg hlt0 (fun x hx => hsp x (by simpa using hx))) trodAll_mk0) (fun _ _ => rfl) (by simp)
    hg (ok_one (by kernel_rfl) rfl (okWide_bool_mk Tryd.underlying4 _))⟩

theorem laid_met (os : Os) : laidMet Tryd.prog Rows.relaunchLinesRow.laid ((laidWorld os).forCall (fun _ _ => 0) ⟨#[], #[.slice none 0 0], []⟩).memory :=
  laidMet_of_run' 8 (by kernel_rfl) (by kernel_rfl)
theorem reads (os : Os) {H : Type} (enc : TypeId × Value → H) : ∃ places, DataW.whole enc Tryd.prog ((laidWorld os).forCall (fun _ _ => 0) ⟨#[], #[.slice none 0 0], []⟩).memory Tryd.f12.params.toList Rows.relaunchLinesSpec.vars false #[.slice none 0 0].toList 8 = some ([.nil], [], places) :=
  ⟨[], by kernel_rfl⟩

set_option maxRecDepth 100000 in
theorem lifted (os : Os) (started : os.Started) (H : Type) (enc : TypeId × Value → H) (F : Stop.Interp) :
    ReturnsInHanded {} Tryd.checked os 12 .any ((OpenSpec.ofChange Rows.relaunchLinesSpec).preRow enc Tryd.prog Tryd.f12 Rows.relaunchLinesRow.domain false Rows.relaunchLinesRow.laid) (((OpenSpec.ofChange Rows.relaunchLinesSpec).at F).post enc Tryd.prog Tryd.f12 false true false false) := by
  obtain ⟨places, hx⟩ := reads os enc
  refine returnsInHanded_of_row (C := Tryd.checked) (s := OpenSpec.ofChange Rows.relaunchLinesSpec) own started (by kernel_rfl) Tryd.func12
    (witness_row_at (enc := enc) (C := Tryd.checked) false (laidWorld os) #[.slice none 0 0] rfl (by kernel_rfl) (by kernel_rfl) (by kernel_rfl)
      (OpenSpec.preRow_of_cond 8 hx (by kernel_rfl) (fun k hk => by cases hk) (by kernel_rfl) (laid_met os))) ?_
  intro W base args ds gs before hval hW _ _ _ _ _ _
  exact contract H enc W base args ds gs before hval hW

theorem said : Rows.RelaunchLinesSaid :=
  OpenClaim.holds_of_cond 12 Tryd.f12 rfl rfl rfl rfl rfl rfl rfl ⟨rfl, rfl, rfl, rfl, rfl⟩ rfl rfl rfl rfl rfl (by kernel_rfl) Tryd.func12 (by kernel_rfl)
    (of_decide_eq_true (by kernel_rfl)) (by unfold Func.isWrapper; first | (rw [if_pos (by decide +kernel)]; kernel_rfl) | (rw [if_neg (by decide +kernel)]; exact ⟨rfl, rfl⟩))
    (fun os started H enc _ F => by rw [OpenClaim.pre_eq_preRow]; exact lifted os started H enc F)

theorem plain (f : FuncId) (fn : Func) (hf : Tryd.pinned.checked.prog.funcNamed Rows.relaunchLinesRow.func = some f) (hfn : Tryd.pinned.checked.prog.funcs[f]? = some fn) :
    false = Tryd.pinned.checked.prog.looks [] ∧ ∀ (j : Nat) t, fn.params[j]? = some t → Tryd.pinned.checked.prog.wantsStandIn t = false := by
  obtain rfl : f = 12 := Option.some.inj ((show Tryd.prog.funcNamed Rows.relaunchLinesRow.func = some 12 by kernel_rfl).symm.trans hf) |>.symm
  obtain rfl : fn = Tryd.f12 := (Option.some.inj (Tryd.func12.symm.trans hfn)).symm
  refine ⟨by kernel_rfl, fun j t ht => ?_⟩
  rw [Tryd.params12] at ht
  have hm := Array.mem_of_getElem? ht
  simp only [List.mem_toArray, List.mem_cons, List.not_mem_nil, or_false] at hm
  subst hm
  exact (show Tryd.prog.wantsStandIn 31 = false by kernel_rfl)

/-- THE CARD -/
theorem card : Rows.RelaunchLinesCardSaid :=
  Claim7.holds_tied_plain_at .later [] _ _ _ _ said (fun _ h => by cases h) (by kernel_rfl) (fun _ h => by cases h) relaunchLines_row_tie rfl ⟨rfl, rfl⟩ (by kernel_rfl) rfl plain (by kernel_rfl)
#print axioms card
end Go.Proofs.YtjgbadopladmdaaDoor.relaunchLines
